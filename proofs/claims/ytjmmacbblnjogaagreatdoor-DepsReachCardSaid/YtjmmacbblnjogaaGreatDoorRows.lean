/-
  NARROWER THAN 'FOR EVERY INPUT', by the rows' own cells (each row's printed sentence says how): BindBack: loops, laid · BindSteps: loops, laid · BindNames: loops, laid · BindUses: loops, laid · BindOccurs: loops, laid · DepsFirst: loops, laid · DepsReach: loops, laid · DepsNeeds: loops, laid.
  DERIVED. THE GIVEN ROWS OF THIS SEAT. 8 by the template 'for every input the law returns true; each argument reads behind the call as it read before'; 0 by the template 'total and deterministic' (their statements: YtjmmacbblnjogaaGreatDoorTotals.lean).
  GIVEN WITH THE SEED: the statements are not yours to turn. If you find one false, say at which input.
  Laid BY PROGRAM, IN A SANDBOX (cutbox-rows.mjs): the forced cells as the released guide's own fill.sh prints them over the translation 7dd1ab60b1e87afd… (all of the seat's roots in one cut). By AI agents, Wed Nov 11 2026. No macro, syntax, notation, axiom, sorry.
-/
import Derived.Test.YtjmmacbblnjogaaGreatDoorChecked
import GoSem.PinnedTables
import GoSem.Claim
import GoSem.ClaimJoined
import GoSem.ClaimMapViews
import Derived.JoinedTies
import Derived.KernelRfl
namespace Go.Proofs.YtjmmacbblnjogaaGreatDoor
/- THE CELL 'sum', in the pinned program and in every row, IS THE sha256 OF THE DUMP (.gsa) THAT YtjmmacbblnjogaaGreatDoorProg.lean LOADS. Nothing in Lean hashes anything: it is a label: what it is worth is what the hold of that sum in a sandbox is worth. -/
noncomputable def Tryz.pinned : Pinned := { name := "ytjmmacbblnjogaagreatdoor", sum := "7dd1ab60b1e87afddbb3eb84b2907afc6aa0a8039fbb4885ceedd096c9fbe3e8", checked := Tryz.checked }
namespace Rows
def none {H : Type} : Left H := { results := [], args := [] }

/- WHAT THE LISTED PACKAGE-LEVEL VARIABLES READ AS WHEN THE CALL BEGINS. Each datum BY PROGRAM (the guide's laid-datum.mjs) off the statement by which the dump's own 'gosem.cut.vars' lays the variable. In a bare row this is a premise. The card (YtjmmacbblnjogaaGreatDoorCards.lean) ties it to the program's text. -/
def laid_unicode_utf8_acceptRanges {H : Type} : DataW H := .agg [.agg [.lit (.int .u8 128), .lit (.int .u8 191)], .agg [.lit (.int .u8 160), .lit (.int .u8 191)], .agg [.lit (.int .u8 128), .lit (.int .u8 159)], .agg [.lit (.int .u8 144), .lit (.int .u8 191)], .agg [.lit (.int .u8 128), .lit (.int .u8 143)], .agg [.lit (.int .u8 0), .lit (.int .u8 0)], .agg [.lit (.int .u8 0), .lit (.int .u8 0)], .agg [.lit (.int .u8 0), .lit (.int .u8 0)], .agg [.lit (.int .u8 0), .lit (.int .u8 0)], .agg [.lit (.int .u8 0), .lit (.int .u8 0)], .agg [.lit (.int .u8 0), .lit (.int .u8 0)], .agg [.lit (.int .u8 0), .lit (.int .u8 0)], .agg [.lit (.int .u8 0), .lit (.int .u8 0)], .agg [.lit (.int .u8 0), .lit (.int .u8 0)], .agg [.lit (.int .u8 0), .lit (.int .u8 0)], .agg [.lit (.int .u8 0), .lit (.int .u8 0)]]
/-- One of Go's own tables, pinned by name: the form's constant. -/
def laid_unicode_utf8_first : DataW Unit := Go.Pinned.utf8First

/-- 'scholiumlaw06.BindBack': WHATEVER THE INPUT: true; the input reads as it did. -/
def bindBackSpec : ChangeSpec := { name := "bindBack", fn := fun _ => fun
  | [d1, d2, d3, d4] => { results := [.lit (.bool true)], args := [d1, d2, d3, d4] }
  | _ => none }
def bindBackRow : OpenClaim := { program := "ytjmmacbblnjogaagreatdoor", sum := "7dd1ab60b1e87afddbb3eb84b2907afc6aa0a8039fbb4885ceedd096c9fbe3e8", func := "scholium/scholiumlaw06.BindBack", spec := "bindBack", inPlace := ["internal/bytealg.IndexByteString", "internal/bytealg.IndexString"], unfollowed := true, recurses := true, named := ["unicode/utf8.first", "unicode/utf8.acceptRanges", "internal/bytealg.MaxLen"], loops := true, apart := false, laid := [("unicode/utf8.acceptRanges", laid_unicode_utf8_acceptRanges), ("unicode/utf8.first", laid_unicode_utf8_first)] }
def BindBackSaid : Prop := bindBackRow.holds Tryz.pinned (OpenSpec.ofChange bindBackSpec)

/-- ITS FALSE NEIGHBOUR: 'it returns false'. Refute it at one input. -/
def bindBackWrong : ChangeSpec := { name := "bindBack", fn := fun _ => fun
  | [d1, d2, d3, d4] => { results := [.lit (.bool false)], args := [d1, d2, d3, d4] }
  | _ => none }
def BindBackWrongFalsely : Prop := bindBackRow.holds Tryz.pinned (OpenSpec.ofChange bindBackWrong)

/-- 'scholiumlaw06.BindSteps': WHATEVER THE INPUT: true; the input reads as it did. -/
def bindStepsSpec : ChangeSpec := { name := "bindSteps", fn := fun _ => fun
  | [d1, d2, d3] => { results := [.lit (.bool true)], args := [d1, d2, d3] }
  | _ => none }
def bindStepsRow : OpenClaim := { program := "ytjmmacbblnjogaagreatdoor", sum := "7dd1ab60b1e87afddbb3eb84b2907afc6aa0a8039fbb4885ceedd096c9fbe3e8", func := "scholium/scholiumlaw06.BindSteps", spec := "bindSteps", inPlace := ["internal/bytealg.IndexByteString", "internal/bytealg.IndexString"], unfollowed := true, recurses := true, named := ["unicode/utf8.first", "unicode/utf8.acceptRanges", "internal/bytealg.MaxLen"], loops := true, apart := false, laid := [("unicode/utf8.acceptRanges", laid_unicode_utf8_acceptRanges), ("unicode/utf8.first", laid_unicode_utf8_first)] }
def BindStepsSaid : Prop := bindStepsRow.holds Tryz.pinned (OpenSpec.ofChange bindStepsSpec)

/-- ITS FALSE NEIGHBOUR: 'it returns false'. Refute it at one input. -/
def bindStepsWrong : ChangeSpec := { name := "bindSteps", fn := fun _ => fun
  | [d1, d2, d3] => { results := [.lit (.bool false)], args := [d1, d2, d3] }
  | _ => none }
def BindStepsWrongFalsely : Prop := bindStepsRow.holds Tryz.pinned (OpenSpec.ofChange bindStepsWrong)

/-- 'scholiumlaw06.BindNames': WHATEVER THE INPUT: true; the input reads as it did. -/
def bindNamesSpec : ChangeSpec := { name := "bindNames", fn := fun _ => fun
  | [d1, d2] => { results := [.lit (.bool true)], args := [d1, d2] }
  | _ => none }
def bindNamesRow : OpenClaim := { program := "ytjmmacbblnjogaagreatdoor", sum := "7dd1ab60b1e87afddbb3eb84b2907afc6aa0a8039fbb4885ceedd096c9fbe3e8", func := "scholium/scholiumlaw06.BindNames", spec := "bindNames", inPlace := ["internal/bytealg.IndexByteString", "internal/bytealg.IndexString"], unfollowed := true, recurses := true, named := ["unicode/utf8.first", "unicode/utf8.acceptRanges", "internal/bytealg.MaxLen"], loops := true, apart := false, laid := [("unicode/utf8.acceptRanges", laid_unicode_utf8_acceptRanges), ("unicode/utf8.first", laid_unicode_utf8_first)] }
def BindNamesSaid : Prop := bindNamesRow.holds Tryz.pinned (OpenSpec.ofChange bindNamesSpec)

/-- ITS FALSE NEIGHBOUR: 'it returns false'. Refute it at one input. -/
def bindNamesWrong : ChangeSpec := { name := "bindNames", fn := fun _ => fun
  | [d1, d2] => { results := [.lit (.bool false)], args := [d1, d2] }
  | _ => none }
def BindNamesWrongFalsely : Prop := bindNamesRow.holds Tryz.pinned (OpenSpec.ofChange bindNamesWrong)

/-- 'scholiumlaw06.BindUses': WHATEVER THE INPUT: true; the input reads as it did. -/
def bindUsesSpec : ChangeSpec := { name := "bindUses", fn := fun _ => fun
  | [d1, d2, d3] => { results := [.lit (.bool true)], args := [d1, d2, d3] }
  | _ => none }
def bindUsesRow : OpenClaim := { program := "ytjmmacbblnjogaagreatdoor", sum := "7dd1ab60b1e87afddbb3eb84b2907afc6aa0a8039fbb4885ceedd096c9fbe3e8", func := "scholium/scholiumlaw06.BindUses", spec := "bindUses", inPlace := ["internal/bytealg.IndexByteString", "internal/bytealg.IndexString"], unfollowed := true, recurses := true, named := ["unicode/utf8.first", "unicode/utf8.acceptRanges", "internal/bytealg.MaxLen"], loops := true, apart := false, laid := [("unicode/utf8.acceptRanges", laid_unicode_utf8_acceptRanges), ("unicode/utf8.first", laid_unicode_utf8_first)] }
def BindUsesSaid : Prop := bindUsesRow.holds Tryz.pinned (OpenSpec.ofChange bindUsesSpec)

/-- ITS FALSE NEIGHBOUR: 'it returns false'. Refute it at one input. -/
def bindUsesWrong : ChangeSpec := { name := "bindUses", fn := fun _ => fun
  | [d1, d2, d3] => { results := [.lit (.bool false)], args := [d1, d2, d3] }
  | _ => none }
def BindUsesWrongFalsely : Prop := bindUsesRow.holds Tryz.pinned (OpenSpec.ofChange bindUsesWrong)

/-- 'scholiumlaw06.BindOccurs': WHATEVER THE INPUT: true; the input reads as it did. -/
def bindOccursSpec : ChangeSpec := { name := "bindOccurs", fn := fun _ => fun
  | [d1, d2, d3] => { results := [.lit (.bool true)], args := [d1, d2, d3] }
  | _ => none }
def bindOccursRow : OpenClaim := { program := "ytjmmacbblnjogaagreatdoor", sum := "7dd1ab60b1e87afddbb3eb84b2907afc6aa0a8039fbb4885ceedd096c9fbe3e8", func := "scholium/scholiumlaw06.BindOccurs", spec := "bindOccurs", inPlace := ["internal/bytealg.IndexByteString", "internal/bytealg.IndexString"], unfollowed := true, recurses := true, named := ["unicode/utf8.first", "unicode/utf8.acceptRanges", "internal/bytealg.MaxLen"], loops := true, apart := false, laid := [("unicode/utf8.acceptRanges", laid_unicode_utf8_acceptRanges), ("unicode/utf8.first", laid_unicode_utf8_first)] }
def BindOccursSaid : Prop := bindOccursRow.holds Tryz.pinned (OpenSpec.ofChange bindOccursSpec)

/-- ITS FALSE NEIGHBOUR: 'it returns false'. Refute it at one input. -/
def bindOccursWrong : ChangeSpec := { name := "bindOccurs", fn := fun _ => fun
  | [d1, d2, d3] => { results := [.lit (.bool false)], args := [d1, d2, d3] }
  | _ => none }
def BindOccursWrongFalsely : Prop := bindOccursRow.holds Tryz.pinned (OpenSpec.ofChange bindOccursWrong)

/-- 'scholiumlaw09.DepsFirst': WHATEVER THE INPUT: true; the input reads as it did. -/
def depsFirstSpec : ChangeSpec := { name := "depsFirst", fn := fun _ => fun
  | [d1, d2] => { results := [.lit (.bool true)], args := [d1, d2] }
  | _ => none }
def depsFirstRow : OpenClaim := { program := "ytjmmacbblnjogaagreatdoor", sum := "7dd1ab60b1e87afddbb3eb84b2907afc6aa0a8039fbb4885ceedd096c9fbe3e8", func := "scholium/scholiumlaw09.DepsFirst", spec := "depsFirst", inPlace := ["internal/bytealg.IndexByteString", "internal/bytealg.IndexString", "internal/abi.NoEscape", "internal/bytealg.MakeNoZero"], unfollowed := true, recurses := true, named := ["unicode/utf8.first", "unicode/utf8.acceptRanges", "internal/bytealg.MaxLen"], loops := true, apart := false, laid := [("unicode/utf8.acceptRanges", laid_unicode_utf8_acceptRanges), ("unicode/utf8.first", laid_unicode_utf8_first)] }
def DepsFirstSaid : Prop := depsFirstRow.holds Tryz.pinned (OpenSpec.ofChange depsFirstSpec)

/-- ITS FALSE NEIGHBOUR: 'it returns false'. Refute it at one input. -/
def depsFirstWrong : ChangeSpec := { name := "depsFirst", fn := fun _ => fun
  | [d1, d2] => { results := [.lit (.bool false)], args := [d1, d2] }
  | _ => none }
def DepsFirstWrongFalsely : Prop := depsFirstRow.holds Tryz.pinned (OpenSpec.ofChange depsFirstWrong)

/-- 'scholiumlaw09.DepsReach': WHATEVER THE INPUT: true; the input reads as it did. -/
def depsReachSpec : ChangeSpec := { name := "depsReach", fn := fun _ => fun
  | [d1, d2] => { results := [.lit (.bool true)], args := [d1, d2] }
  | _ => none }
def depsReachRow : OpenClaim := { program := "ytjmmacbblnjogaagreatdoor", sum := "7dd1ab60b1e87afddbb3eb84b2907afc6aa0a8039fbb4885ceedd096c9fbe3e8", func := "scholium/scholiumlaw09.DepsReach", spec := "depsReach", inPlace := ["internal/bytealg.IndexByteString", "internal/bytealg.IndexString", "internal/abi.NoEscape", "internal/bytealg.MakeNoZero"], unfollowed := true, recurses := true, named := ["unicode/utf8.first", "unicode/utf8.acceptRanges", "internal/bytealg.MaxLen"], loops := true, apart := false, laid := [("unicode/utf8.acceptRanges", laid_unicode_utf8_acceptRanges), ("unicode/utf8.first", laid_unicode_utf8_first)] }
def DepsReachSaid : Prop := depsReachRow.holds Tryz.pinned (OpenSpec.ofChange depsReachSpec)

/-- ITS FALSE NEIGHBOUR: 'it returns false'. Refute it at one input. -/
def depsReachWrong : ChangeSpec := { name := "depsReach", fn := fun _ => fun
  | [d1, d2] => { results := [.lit (.bool false)], args := [d1, d2] }
  | _ => none }
def DepsReachWrongFalsely : Prop := depsReachRow.holds Tryz.pinned (OpenSpec.ofChange depsReachWrong)

/-- 'scholiumlaw09.DepsNeeds': WHATEVER THE INPUT: true; the input reads as it did. -/
def depsNeedsSpec : ChangeSpec := { name := "depsNeeds", fn := fun _ => fun
  | [d] => { results := [.lit (.bool true)], args := [d] }
  | _ => none }
def depsNeedsRow : OpenClaim := { program := "ytjmmacbblnjogaagreatdoor", sum := "7dd1ab60b1e87afddbb3eb84b2907afc6aa0a8039fbb4885ceedd096c9fbe3e8", func := "scholium/scholiumlaw09.DepsNeeds", spec := "depsNeeds", inPlace := ["internal/bytealg.IndexByteString", "internal/bytealg.IndexString", "internal/abi.NoEscape", "internal/bytealg.MakeNoZero"], unfollowed := true, recurses := true, named := ["unicode/utf8.first", "unicode/utf8.acceptRanges", "internal/bytealg.MaxLen"], loops := true, apart := false, laid := [("unicode/utf8.acceptRanges", laid_unicode_utf8_acceptRanges), ("unicode/utf8.first", laid_unicode_utf8_first)] }
def DepsNeedsSaid : Prop := depsNeedsRow.holds Tryz.pinned (OpenSpec.ofChange depsNeedsSpec)

/-- ITS FALSE NEIGHBOUR: 'it returns false'. Refute it at one input. -/
def depsNeedsWrong : ChangeSpec := { name := "depsNeeds", fn := fun _ => fun
  | [d] => { results := [.lit (.bool false)], args := [d] }
  | _ => none }
def DepsNeedsWrongFalsely : Prop := depsNeedsRow.holds Tryz.pinned (OpenSpec.ofChange depsNeedsWrong)

/- THE SECOND FORM. 'bulk': how many values and letters a reading holds, each counted each time it is reached (what is shared counts as often as it is met; a slice's spare places count too). A statement '..UptoSaid' is the law's where the arguments, and the package variables that the reading takes, are together of bulk at most 1048576: NARROWER than '..Said'. Prove '..Said' where nothing that the law and all that it calls make is longer than what came in: it says more and counts as full. Else prove '..UptoSaid'. A law counts once. -/
mutual
def uptoBulk {H : Type} : DataW H → Nat
  | .lit (.string bytes) => bytes.length + 1
  | .lit _ => 1
  | .nil => 1
  | .ptr d => uptoBulk d + 1
  | .slice elems spare => uptoBulkAll elems + uptoBulkAll spare + 1
  | .agg parts => uptoBulkAll parts + 1
  | .iface _ d => uptoBulk d + 1
  | .map entries => uptoBulkEntries entries + 1
  | .held _ => 1
def uptoBulkAll {H : Type} : List (DataW H) → Nat
  | [] => 0
  | d :: r => uptoBulk d + uptoBulkAll r
def uptoBulkEntries {H : Type} : List (Lit × DataW H) → Nat
  | [] => 0
  | x :: r => uptoBulkEntry x + uptoBulkEntries r
def uptoBulkEntry {H : Type} : Lit × DataW H → Nat
  | (.string bytes, d) => bytes.length + uptoBulk d + 1
  | (_, d) => uptoBulk d + 1
 end
def uptoSmall : (H : Type) → List (DataW H) → Bool := fun _ ds => decide (uptoBulkAll ds ≤ 1048576)
def OpenSpec.upto (s : _root_.Go.ChangeSpec) : _root_.Go.OpenSpec := { _root_.Go.OpenSpec.ofChange s with cond := some uptoSmall }

/-- 'scholiumlaw06.BindBack', WHERE WHAT IT READS IS OF BULK AT MOST 1048576: true; the input reads as it did. -/
def bindBackUptoRow : OpenClaim := { program := "ytjmmacbblnjogaagreatdoor", sum := "7dd1ab60b1e87afddbb3eb84b2907afc6aa0a8039fbb4885ceedd096c9fbe3e8", func := "scholium/scholiumlaw06.BindBack", spec := "bindBack", inPlace := ["internal/bytealg.IndexByteString", "internal/bytealg.IndexString"], unfollowed := true, recurses := true, named := ["unicode/utf8.first", "unicode/utf8.acceptRanges", "internal/bytealg.MaxLen"], loops := true, apart := false, laid := [("unicode/utf8.acceptRanges", laid_unicode_utf8_acceptRanges), ("unicode/utf8.first", laid_unicode_utf8_first)], narrowed := true }
def BindBackUptoSaid : Prop := bindBackUptoRow.holds Tryz.pinned (OpenSpec.upto bindBackSpec)

/-- 'scholiumlaw06.BindSteps', WHERE WHAT IT READS IS OF BULK AT MOST 1048576: true; the input reads as it did. -/
def bindStepsUptoRow : OpenClaim := { program := "ytjmmacbblnjogaagreatdoor", sum := "7dd1ab60b1e87afddbb3eb84b2907afc6aa0a8039fbb4885ceedd096c9fbe3e8", func := "scholium/scholiumlaw06.BindSteps", spec := "bindSteps", inPlace := ["internal/bytealg.IndexByteString", "internal/bytealg.IndexString"], unfollowed := true, recurses := true, named := ["unicode/utf8.first", "unicode/utf8.acceptRanges", "internal/bytealg.MaxLen"], loops := true, apart := false, laid := [("unicode/utf8.acceptRanges", laid_unicode_utf8_acceptRanges), ("unicode/utf8.first", laid_unicode_utf8_first)], narrowed := true }
def BindStepsUptoSaid : Prop := bindStepsUptoRow.holds Tryz.pinned (OpenSpec.upto bindStepsSpec)

/-- 'scholiumlaw06.BindNames', WHERE WHAT IT READS IS OF BULK AT MOST 1048576: true; the input reads as it did. -/
def bindNamesUptoRow : OpenClaim := { program := "ytjmmacbblnjogaagreatdoor", sum := "7dd1ab60b1e87afddbb3eb84b2907afc6aa0a8039fbb4885ceedd096c9fbe3e8", func := "scholium/scholiumlaw06.BindNames", spec := "bindNames", inPlace := ["internal/bytealg.IndexByteString", "internal/bytealg.IndexString"], unfollowed := true, recurses := true, named := ["unicode/utf8.first", "unicode/utf8.acceptRanges", "internal/bytealg.MaxLen"], loops := true, apart := false, laid := [("unicode/utf8.acceptRanges", laid_unicode_utf8_acceptRanges), ("unicode/utf8.first", laid_unicode_utf8_first)], narrowed := true }
def BindNamesUptoSaid : Prop := bindNamesUptoRow.holds Tryz.pinned (OpenSpec.upto bindNamesSpec)

/-- 'scholiumlaw06.BindUses', WHERE WHAT IT READS IS OF BULK AT MOST 1048576: true; the input reads as it did. -/
def bindUsesUptoRow : OpenClaim := { program := "ytjmmacbblnjogaagreatdoor", sum := "7dd1ab60b1e87afddbb3eb84b2907afc6aa0a8039fbb4885ceedd096c9fbe3e8", func := "scholium/scholiumlaw06.BindUses", spec := "bindUses", inPlace := ["internal/bytealg.IndexByteString", "internal/bytealg.IndexString"], unfollowed := true, recurses := true, named := ["unicode/utf8.first", "unicode/utf8.acceptRanges", "internal/bytealg.MaxLen"], loops := true, apart := false, laid := [("unicode/utf8.acceptRanges", laid_unicode_utf8_acceptRanges), ("unicode/utf8.first", laid_unicode_utf8_first)], narrowed := true }
def BindUsesUptoSaid : Prop := bindUsesUptoRow.holds Tryz.pinned (OpenSpec.upto bindUsesSpec)

/-- 'scholiumlaw06.BindOccurs', WHERE WHAT IT READS IS OF BULK AT MOST 1048576: true; the input reads as it did. -/
def bindOccursUptoRow : OpenClaim := { program := "ytjmmacbblnjogaagreatdoor", sum := "7dd1ab60b1e87afddbb3eb84b2907afc6aa0a8039fbb4885ceedd096c9fbe3e8", func := "scholium/scholiumlaw06.BindOccurs", spec := "bindOccurs", inPlace := ["internal/bytealg.IndexByteString", "internal/bytealg.IndexString"], unfollowed := true, recurses := true, named := ["unicode/utf8.first", "unicode/utf8.acceptRanges", "internal/bytealg.MaxLen"], loops := true, apart := false, laid := [("unicode/utf8.acceptRanges", laid_unicode_utf8_acceptRanges), ("unicode/utf8.first", laid_unicode_utf8_first)], narrowed := true }
def BindOccursUptoSaid : Prop := bindOccursUptoRow.holds Tryz.pinned (OpenSpec.upto bindOccursSpec)

/-- 'scholiumlaw09.DepsFirst', WHERE WHAT IT READS IS OF BULK AT MOST 1048576: true; the input reads as it did. -/
def depsFirstUptoRow : OpenClaim := { program := "ytjmmacbblnjogaagreatdoor", sum := "7dd1ab60b1e87afddbb3eb84b2907afc6aa0a8039fbb4885ceedd096c9fbe3e8", func := "scholium/scholiumlaw09.DepsFirst", spec := "depsFirst", inPlace := ["internal/bytealg.IndexByteString", "internal/bytealg.IndexString", "internal/abi.NoEscape", "internal/bytealg.MakeNoZero"], unfollowed := true, recurses := true, named := ["unicode/utf8.first", "unicode/utf8.acceptRanges", "internal/bytealg.MaxLen"], loops := true, apart := false, laid := [("unicode/utf8.acceptRanges", laid_unicode_utf8_acceptRanges), ("unicode/utf8.first", laid_unicode_utf8_first)], narrowed := true }
def DepsFirstUptoSaid : Prop := depsFirstUptoRow.holds Tryz.pinned (OpenSpec.upto depsFirstSpec)

/-- 'scholiumlaw09.DepsReach', WHERE WHAT IT READS IS OF BULK AT MOST 1048576: true; the input reads as it did. -/
def depsReachUptoRow : OpenClaim := { program := "ytjmmacbblnjogaagreatdoor", sum := "7dd1ab60b1e87afddbb3eb84b2907afc6aa0a8039fbb4885ceedd096c9fbe3e8", func := "scholium/scholiumlaw09.DepsReach", spec := "depsReach", inPlace := ["internal/bytealg.IndexByteString", "internal/bytealg.IndexString", "internal/abi.NoEscape", "internal/bytealg.MakeNoZero"], unfollowed := true, recurses := true, named := ["unicode/utf8.first", "unicode/utf8.acceptRanges", "internal/bytealg.MaxLen"], loops := true, apart := false, laid := [("unicode/utf8.acceptRanges", laid_unicode_utf8_acceptRanges), ("unicode/utf8.first", laid_unicode_utf8_first)], narrowed := true }
def DepsReachUptoSaid : Prop := depsReachUptoRow.holds Tryz.pinned (OpenSpec.upto depsReachSpec)

/-- 'scholiumlaw09.DepsNeeds', WHERE WHAT IT READS IS OF BULK AT MOST 1048576: true; the input reads as it did. -/
def depsNeedsUptoRow : OpenClaim := { program := "ytjmmacbblnjogaagreatdoor", sum := "7dd1ab60b1e87afddbb3eb84b2907afc6aa0a8039fbb4885ceedd096c9fbe3e8", func := "scholium/scholiumlaw09.DepsNeeds", spec := "depsNeeds", inPlace := ["internal/bytealg.IndexByteString", "internal/bytealg.IndexString", "internal/abi.NoEscape", "internal/bytealg.MakeNoZero"], unfollowed := true, recurses := true, named := ["unicode/utf8.first", "unicode/utf8.acceptRanges", "internal/bytealg.MaxLen"], loops := true, apart := false, laid := [("unicode/utf8.acceptRanges", laid_unicode_utf8_acceptRanges), ("unicode/utf8.first", laid_unicode_utf8_first)], narrowed := true }
def DepsNeedsUptoSaid : Prop := depsNeedsUptoRow.holds Tryz.pinned (OpenSpec.upto depsNeedsSpec)

end Rows
end Go.Proofs.YtjmmacbblnjogaaGreatDoor
