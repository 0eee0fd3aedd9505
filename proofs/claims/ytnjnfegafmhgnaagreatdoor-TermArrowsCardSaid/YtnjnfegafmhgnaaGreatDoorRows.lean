/-
  NARROWER THAN 'FOR EVERY INPUT', by the rows' own cells (each row's printed sentence says how): DeclAnswers: loops, laid · DeclClones: loops, laid · PackAnswers: loops, laid · PackOne: laid · TermArrows: loops, laid · TermMakes: loops, laid · TermRights: loops, laid.
  DERIVED. THE GIVEN ROWS OF THIS SEAT. 7 by the template 'for every input the law returns true; each argument reads behind the call as it read before'; 0 by the template 'total and deterministic' (their statements: YtnjnfegafmhgnaaGreatDoorTotals.lean).
  GIVEN WITH THE SEED: the statements are not yours to turn. If you find one false, say at which input.
  Laid BY PROGRAM, IN A SANDBOX (cutbox-rows.mjs): the forced cells as the released guide's own fill.sh prints them over the translation 0f752e1e03a9a281… (all of the seat's roots in one cut). By AI agents, Wed Nov 11 2026. No macro, syntax, notation, axiom, sorry.
-/
import Derived.Test.YtnjnfegafmhgnaaGreatDoorChecked
import GoSem.PinnedTables
import GoSem.Claim
import GoSem.ClaimJoined
import GoSem.ClaimMapViews
import Derived.JoinedTies
import Derived.KernelRfl
namespace Go.Proofs.YtnjnfegafmhgnaaGreatDoor
/- THE CELL 'sum', in the pinned program and in every row, IS THE sha256 OF THE DUMP (.gsa) THAT YtnjnfegafmhgnaaGreatDoorProg.lean LOADS. Nothing in Lean hashes anything: it is a label: what it is worth is what the hold of that sum in a sandbox is worth. -/
noncomputable def Tryz.pinned : Pinned := { name := "ytnjnfegafmhgnaagreatdoor", sum := "0f752e1e03a9a2811e7fc92c905fbfe8959f78479fdb0df6138907a32577e43f", checked := Tryz.checked }
namespace Rows
def none {H : Type} : Left H := { results := [], args := [] }

/- WHAT THE LISTED PACKAGE-LEVEL VARIABLES READ AS WHEN THE CALL BEGINS. Each datum BY PROGRAM (the guide's laid-datum.mjs) off the statement by which the dump's own 'gosem.cut.vars' lays the variable. In a bare row this is a premise. The card (YtnjnfegafmhgnaaGreatDoorCards.lean) ties it to the program's text. -/
def laid_unicode_utf8_acceptRanges {H : Type} : DataW H := .agg [.agg [.lit (.int .u8 128), .lit (.int .u8 191)], .agg [.lit (.int .u8 160), .lit (.int .u8 191)], .agg [.lit (.int .u8 128), .lit (.int .u8 159)], .agg [.lit (.int .u8 144), .lit (.int .u8 191)], .agg [.lit (.int .u8 128), .lit (.int .u8 143)], .agg [.lit (.int .u8 0), .lit (.int .u8 0)], .agg [.lit (.int .u8 0), .lit (.int .u8 0)], .agg [.lit (.int .u8 0), .lit (.int .u8 0)], .agg [.lit (.int .u8 0), .lit (.int .u8 0)], .agg [.lit (.int .u8 0), .lit (.int .u8 0)], .agg [.lit (.int .u8 0), .lit (.int .u8 0)], .agg [.lit (.int .u8 0), .lit (.int .u8 0)], .agg [.lit (.int .u8 0), .lit (.int .u8 0)], .agg [.lit (.int .u8 0), .lit (.int .u8 0)], .agg [.lit (.int .u8 0), .lit (.int .u8 0)], .agg [.lit (.int .u8 0), .lit (.int .u8 0)]]
/-- One of Go's own tables, pinned by name: the form's constant. -/
def laid_unicode_utf8_first : DataW Unit := Go.Pinned.utf8First

/-- 'scholiumlaw11.DeclAnswers': WHATEVER THE INPUT: true; the input reads as it did. -/
def declAnswersSpec : ChangeSpec := { name := "declAnswers", fn := fun _ => fun
  | [d1, d2, d3, d4, d5] => { results := [.lit (.bool true)], args := [d1, d2, d3, d4, d5] }
  | _ => none }
def declAnswersRow : OpenClaim := { program := "ytnjnfegafmhgnaagreatdoor", sum := "0f752e1e03a9a2811e7fc92c905fbfe8959f78479fdb0df6138907a32577e43f", func := "scholium/scholiumlaw11.DeclAnswers", spec := "declAnswers", inPlace := ["internal/bytealg.IndexByteString", "internal/bytealg.IndexString"], unfollowed := true, recurses := true, named := ["unicode/utf8.first", "unicode/utf8.acceptRanges", "internal/bytealg.MaxLen"], loops := true, apart := false, laid := [("unicode/utf8.acceptRanges", laid_unicode_utf8_acceptRanges), ("unicode/utf8.first", laid_unicode_utf8_first)] }
def DeclAnswersSaid : Prop := declAnswersRow.holds Tryz.pinned (OpenSpec.ofChange declAnswersSpec)

/-- ITS FALSE NEIGHBOUR: 'it returns false'. Refute it at one input. -/
def declAnswersWrong : ChangeSpec := { name := "declAnswers", fn := fun _ => fun
  | [d1, d2, d3, d4, d5] => { results := [.lit (.bool false)], args := [d1, d2, d3, d4, d5] }
  | _ => none }
def DeclAnswersWrongFalsely : Prop := declAnswersRow.holds Tryz.pinned (OpenSpec.ofChange declAnswersWrong)

/-- 'scholiumlaw11.DeclClones': WHATEVER THE INPUT: true; the input reads as it did. -/
def declClonesSpec : ChangeSpec := { name := "declClones", fn := fun _ => fun
  | [d] => { results := [.lit (.bool true)], args := [d] }
  | _ => none }
def declClonesRow : OpenClaim := { program := "ytnjnfegafmhgnaagreatdoor", sum := "0f752e1e03a9a2811e7fc92c905fbfe8959f78479fdb0df6138907a32577e43f", func := "scholium/scholiumlaw11.DeclClones", spec := "declClones", inPlace := ["internal/bytealg.IndexByteString", "internal/bytealg.IndexString"], unfollowed := true, recurses := true, named := ["unicode/utf8.first", "unicode/utf8.acceptRanges", "internal/bytealg.MaxLen"], loops := true, apart := false, laid := [("unicode/utf8.acceptRanges", laid_unicode_utf8_acceptRanges), ("unicode/utf8.first", laid_unicode_utf8_first)] }
def DeclClonesSaid : Prop := declClonesRow.holds Tryz.pinned (OpenSpec.ofChange declClonesSpec)

/-- ITS FALSE NEIGHBOUR: 'it returns false'. Refute it at one input. -/
def declClonesWrong : ChangeSpec := { name := "declClones", fn := fun _ => fun
  | [d] => { results := [.lit (.bool false)], args := [d] }
  | _ => none }
def DeclClonesWrongFalsely : Prop := declClonesRow.holds Tryz.pinned (OpenSpec.ofChange declClonesWrong)

/-- 'scholiumlaw08.PackAnswers': WHATEVER THE INPUT: true; the input reads as it did. -/
def packAnswersSpec : ChangeSpec := { name := "packAnswers", fn := fun _ => fun
  | [d1, d2, d3] => { results := [.lit (.bool true)], args := [d1, d2, d3] }
  | _ => none }
def packAnswersRow : OpenClaim := { program := "ytnjnfegafmhgnaagreatdoor", sum := "0f752e1e03a9a2811e7fc92c905fbfe8959f78479fdb0df6138907a32577e43f", func := "scholium/scholiumlaw08.PackAnswers", spec := "packAnswers", inPlace := ["internal/bytealg.IndexByteString", "internal/bytealg.IndexString"], unfollowed := true, recurses := true, named := ["unicode/utf8.first", "unicode/utf8.acceptRanges", "internal/bytealg.MaxLen"], loops := true, apart := false, laid := [("unicode/utf8.acceptRanges", laid_unicode_utf8_acceptRanges), ("unicode/utf8.first", laid_unicode_utf8_first)] }
def PackAnswersSaid : Prop := packAnswersRow.holds Tryz.pinned (OpenSpec.ofChange packAnswersSpec)

/-- ITS FALSE NEIGHBOUR: 'it returns false'. Refute it at one input. -/
def packAnswersWrong : ChangeSpec := { name := "packAnswers", fn := fun _ => fun
  | [d1, d2, d3] => { results := [.lit (.bool false)], args := [d1, d2, d3] }
  | _ => none }
def PackAnswersWrongFalsely : Prop := packAnswersRow.holds Tryz.pinned (OpenSpec.ofChange packAnswersWrong)

/-- 'scholiumlaw08.PackOne': WHATEVER THE INPUT: true; the input reads as it did. -/
def packOneSpec : ChangeSpec := { name := "packOne", fn := fun _ => fun
  | [d] => { results := [.lit (.bool true)], args := [d] }
  | _ => none }
def packOneRow : OpenClaim := { program := "ytnjnfegafmhgnaagreatdoor", sum := "0f752e1e03a9a2811e7fc92c905fbfe8959f78479fdb0df6138907a32577e43f", func := "scholium/scholiumlaw08.PackOne", spec := "packOne", inPlace := ["internal/bytealg.IndexByteString", "internal/bytealg.IndexString"], unfollowed := true, recurses := true, named := ["unicode/utf8.first", "unicode/utf8.acceptRanges", "internal/bytealg.MaxLen"], apart := false, laid := [("unicode/utf8.acceptRanges", laid_unicode_utf8_acceptRanges), ("unicode/utf8.first", laid_unicode_utf8_first)] }
def PackOneSaid : Prop := packOneRow.holds Tryz.pinned (OpenSpec.ofChange packOneSpec)

/-- ITS FALSE NEIGHBOUR: 'it returns false'. Refute it at one input. -/
def packOneWrong : ChangeSpec := { name := "packOne", fn := fun _ => fun
  | [d] => { results := [.lit (.bool false)], args := [d] }
  | _ => none }
def PackOneWrongFalsely : Prop := packOneRow.holds Tryz.pinned (OpenSpec.ofChange packOneWrong)

/-- 'scholiumlaw04.TermArrows': WHATEVER THE INPUT: true; the input reads as it did. -/
def termArrowsSpec : ChangeSpec := { name := "termArrows", fn := fun _ => fun
  | [d1, d2] => { results := [.lit (.bool true)], args := [d1, d2] }
  | _ => none }
def termArrowsRow : OpenClaim := { program := "ytnjnfegafmhgnaagreatdoor", sum := "0f752e1e03a9a2811e7fc92c905fbfe8959f78479fdb0df6138907a32577e43f", func := "scholium/scholiumlaw04.TermArrows", spec := "termArrows", inPlace := ["internal/bytealg.IndexByteString", "internal/bytealg.IndexString"], unfollowed := true, recurses := true, named := ["unicode/utf8.first", "unicode/utf8.acceptRanges", "internal/bytealg.MaxLen"], loops := true, apart := false, laid := [("unicode/utf8.acceptRanges", laid_unicode_utf8_acceptRanges), ("unicode/utf8.first", laid_unicode_utf8_first)] }
def TermArrowsSaid : Prop := termArrowsRow.holds Tryz.pinned (OpenSpec.ofChange termArrowsSpec)

/-- ITS FALSE NEIGHBOUR: 'it returns false'. Refute it at one input. -/
def termArrowsWrong : ChangeSpec := { name := "termArrows", fn := fun _ => fun
  | [d1, d2] => { results := [.lit (.bool false)], args := [d1, d2] }
  | _ => none }
def TermArrowsWrongFalsely : Prop := termArrowsRow.holds Tryz.pinned (OpenSpec.ofChange termArrowsWrong)

/-- 'scholiumlaw04.TermMakes': WHATEVER THE INPUT: true; the input reads as it did. -/
def termMakesSpec : ChangeSpec := { name := "termMakes", fn := fun _ => fun
  | [d1, d2, d3] => { results := [.lit (.bool true)], args := [d1, d2, d3] }
  | _ => none }
def termMakesRow : OpenClaim := { program := "ytnjnfegafmhgnaagreatdoor", sum := "0f752e1e03a9a2811e7fc92c905fbfe8959f78479fdb0df6138907a32577e43f", func := "scholium/scholiumlaw04.TermMakes", spec := "termMakes", inPlace := ["internal/bytealg.IndexByteString", "internal/bytealg.IndexString"], unfollowed := true, recurses := true, named := ["unicode/utf8.first", "unicode/utf8.acceptRanges", "internal/bytealg.MaxLen"], loops := true, apart := false, laid := [("unicode/utf8.acceptRanges", laid_unicode_utf8_acceptRanges), ("unicode/utf8.first", laid_unicode_utf8_first)] }
def TermMakesSaid : Prop := termMakesRow.holds Tryz.pinned (OpenSpec.ofChange termMakesSpec)

/-- ITS FALSE NEIGHBOUR: 'it returns false'. Refute it at one input. -/
def termMakesWrong : ChangeSpec := { name := "termMakes", fn := fun _ => fun
  | [d1, d2, d3] => { results := [.lit (.bool false)], args := [d1, d2, d3] }
  | _ => none }
def TermMakesWrongFalsely : Prop := termMakesRow.holds Tryz.pinned (OpenSpec.ofChange termMakesWrong)

/-- 'scholiumlaw04.TermRights': WHATEVER THE INPUT: true; the input reads as it did. -/
def termRightsSpec : ChangeSpec := { name := "termRights", fn := fun _ => fun
  | [d1, d2, d3, d4] => { results := [.lit (.bool true)], args := [d1, d2, d3, d4] }
  | _ => none }
def termRightsRow : OpenClaim := { program := "ytnjnfegafmhgnaagreatdoor", sum := "0f752e1e03a9a2811e7fc92c905fbfe8959f78479fdb0df6138907a32577e43f", func := "scholium/scholiumlaw04.TermRights", spec := "termRights", inPlace := ["internal/bytealg.IndexByteString", "internal/bytealg.IndexString"], unfollowed := true, recurses := true, named := ["unicode/utf8.first", "unicode/utf8.acceptRanges", "internal/bytealg.MaxLen"], loops := true, apart := false, laid := [("unicode/utf8.acceptRanges", laid_unicode_utf8_acceptRanges), ("unicode/utf8.first", laid_unicode_utf8_first)] }
def TermRightsSaid : Prop := termRightsRow.holds Tryz.pinned (OpenSpec.ofChange termRightsSpec)

/-- ITS FALSE NEIGHBOUR: 'it returns false'. Refute it at one input. -/
def termRightsWrong : ChangeSpec := { name := "termRights", fn := fun _ => fun
  | [d1, d2, d3, d4] => { results := [.lit (.bool false)], args := [d1, d2, d3, d4] }
  | _ => none }
def TermRightsWrongFalsely : Prop := termRightsRow.holds Tryz.pinned (OpenSpec.ofChange termRightsWrong)

/- THE SECOND FORM. 'bulk': how many values and letters a reading holds, each counted each time it is reached (what is shared counts as often as it is met; a slice's spare places count too). A statement '..UptoSaid' is the law's where the arguments, and the package variables that the reading takes, are together of bulk at most 1048576: NARROWER than '..Said'. Prove '..Said' where nothing that the law and all that it calls make is longer than what came in: it says more and counts as full. Else prove '..UptoSaid'. A law counts once. -/
mutual
def uptoBulk {H : Type} : DataW H → Nat
  | .lit (.string bytes) => bytes.length + 1
  | .lit _ => 1
  | .nil => 1
  | .ptr d => uptoBulk d + 1
  | .slice elems spare => uptoBulkAll elems + uptoBulkAll spare + 1
  | .agg parts => uptoBulkAll parts + 1
  | .iface _ d => uptoBulk d + 1
  | .map entries => uptoBulkEntries entries + 1
  | .held _ => 1
def uptoBulkAll {H : Type} : List (DataW H) → Nat
  | [] => 0
  | d :: r => uptoBulk d + uptoBulkAll r
def uptoBulkEntries {H : Type} : List (Lit × DataW H) → Nat
  | [] => 0
  | x :: r => uptoBulkEntry x + uptoBulkEntries r
def uptoBulkEntry {H : Type} : Lit × DataW H → Nat
  | (.string bytes, d) => bytes.length + uptoBulk d + 1
  | (_, d) => uptoBulk d + 1
 end
def uptoSmall : (H : Type) → List (DataW H) → Bool := fun _ ds => decide (uptoBulkAll ds ≤ 1048576)
def OpenSpec.upto (s : _root_.Go.ChangeSpec) : _root_.Go.OpenSpec := { _root_.Go.OpenSpec.ofChange s with cond := some uptoSmall }

/-- 'scholiumlaw11.DeclAnswers', WHERE WHAT IT READS IS OF BULK AT MOST 1048576: true; the input reads as it did. -/
def declAnswersUptoRow : OpenClaim := { program := "ytnjnfegafmhgnaagreatdoor", sum := "0f752e1e03a9a2811e7fc92c905fbfe8959f78479fdb0df6138907a32577e43f", func := "scholium/scholiumlaw11.DeclAnswers", spec := "declAnswers", inPlace := ["internal/bytealg.IndexByteString", "internal/bytealg.IndexString"], unfollowed := true, recurses := true, named := ["unicode/utf8.first", "unicode/utf8.acceptRanges", "internal/bytealg.MaxLen"], loops := true, apart := false, laid := [("unicode/utf8.acceptRanges", laid_unicode_utf8_acceptRanges), ("unicode/utf8.first", laid_unicode_utf8_first)], narrowed := true }
def DeclAnswersUptoSaid : Prop := declAnswersUptoRow.holds Tryz.pinned (OpenSpec.upto declAnswersSpec)

/-- 'scholiumlaw11.DeclClones', WHERE WHAT IT READS IS OF BULK AT MOST 1048576: true; the input reads as it did. -/
def declClonesUptoRow : OpenClaim := { program := "ytnjnfegafmhgnaagreatdoor", sum := "0f752e1e03a9a2811e7fc92c905fbfe8959f78479fdb0df6138907a32577e43f", func := "scholium/scholiumlaw11.DeclClones", spec := "declClones", inPlace := ["internal/bytealg.IndexByteString", "internal/bytealg.IndexString"], unfollowed := true, recurses := true, named := ["unicode/utf8.first", "unicode/utf8.acceptRanges", "internal/bytealg.MaxLen"], loops := true, apart := false, laid := [("unicode/utf8.acceptRanges", laid_unicode_utf8_acceptRanges), ("unicode/utf8.first", laid_unicode_utf8_first)], narrowed := true }
def DeclClonesUptoSaid : Prop := declClonesUptoRow.holds Tryz.pinned (OpenSpec.upto declClonesSpec)

/-- 'scholiumlaw08.PackAnswers', WHERE WHAT IT READS IS OF BULK AT MOST 1048576: true; the input reads as it did. -/
def packAnswersUptoRow : OpenClaim := { program := "ytnjnfegafmhgnaagreatdoor", sum := "0f752e1e03a9a2811e7fc92c905fbfe8959f78479fdb0df6138907a32577e43f", func := "scholium/scholiumlaw08.PackAnswers", spec := "packAnswers", inPlace := ["internal/bytealg.IndexByteString", "internal/bytealg.IndexString"], unfollowed := true, recurses := true, named := ["unicode/utf8.first", "unicode/utf8.acceptRanges", "internal/bytealg.MaxLen"], loops := true, apart := false, laid := [("unicode/utf8.acceptRanges", laid_unicode_utf8_acceptRanges), ("unicode/utf8.first", laid_unicode_utf8_first)], narrowed := true }
def PackAnswersUptoSaid : Prop := packAnswersUptoRow.holds Tryz.pinned (OpenSpec.upto packAnswersSpec)

/-- 'scholiumlaw08.PackOne', WHERE WHAT IT READS IS OF BULK AT MOST 1048576: true; the input reads as it did. -/
def packOneUptoRow : OpenClaim := { program := "ytnjnfegafmhgnaagreatdoor", sum := "0f752e1e03a9a2811e7fc92c905fbfe8959f78479fdb0df6138907a32577e43f", func := "scholium/scholiumlaw08.PackOne", spec := "packOne", inPlace := ["internal/bytealg.IndexByteString", "internal/bytealg.IndexString"], unfollowed := true, recurses := true, named := ["unicode/utf8.first", "unicode/utf8.acceptRanges", "internal/bytealg.MaxLen"], apart := false, laid := [("unicode/utf8.acceptRanges", laid_unicode_utf8_acceptRanges), ("unicode/utf8.first", laid_unicode_utf8_first)], narrowed := true }
def PackOneUptoSaid : Prop := packOneUptoRow.holds Tryz.pinned (OpenSpec.upto packOneSpec)

/-- 'scholiumlaw04.TermArrows', WHERE WHAT IT READS IS OF BULK AT MOST 1048576: true; the input reads as it did. -/
def termArrowsUptoRow : OpenClaim := { program := "ytnjnfegafmhgnaagreatdoor", sum := "0f752e1e03a9a2811e7fc92c905fbfe8959f78479fdb0df6138907a32577e43f", func := "scholium/scholiumlaw04.TermArrows", spec := "termArrows", inPlace := ["internal/bytealg.IndexByteString", "internal/bytealg.IndexString"], unfollowed := true, recurses := true, named := ["unicode/utf8.first", "unicode/utf8.acceptRanges", "internal/bytealg.MaxLen"], loops := true, apart := false, laid := [("unicode/utf8.acceptRanges", laid_unicode_utf8_acceptRanges), ("unicode/utf8.first", laid_unicode_utf8_first)], narrowed := true }
def TermArrowsUptoSaid : Prop := termArrowsUptoRow.holds Tryz.pinned (OpenSpec.upto termArrowsSpec)

/-- 'scholiumlaw04.TermMakes', WHERE WHAT IT READS IS OF BULK AT MOST 1048576: true; the input reads as it did. -/
def termMakesUptoRow : OpenClaim := { program := "ytnjnfegafmhgnaagreatdoor", sum := "0f752e1e03a9a2811e7fc92c905fbfe8959f78479fdb0df6138907a32577e43f", func := "scholium/scholiumlaw04.TermMakes", spec := "termMakes", inPlace := ["internal/bytealg.IndexByteString", "internal/bytealg.IndexString"], unfollowed := true, recurses := true, named := ["unicode/utf8.first", "unicode/utf8.acceptRanges", "internal/bytealg.MaxLen"], loops := true, apart := false, laid := [("unicode/utf8.acceptRanges", laid_unicode_utf8_acceptRanges), ("unicode/utf8.first", laid_unicode_utf8_first)], narrowed := true }
def TermMakesUptoSaid : Prop := termMakesUptoRow.holds Tryz.pinned (OpenSpec.upto termMakesSpec)

/-- 'scholiumlaw04.TermRights', WHERE WHAT IT READS IS OF BULK AT MOST 1048576: true; the input reads as it did. -/
def termRightsUptoRow : OpenClaim := { program := "ytnjnfegafmhgnaagreatdoor", sum := "0f752e1e03a9a2811e7fc92c905fbfe8959f78479fdb0df6138907a32577e43f", func := "scholium/scholiumlaw04.TermRights", spec := "termRights", inPlace := ["internal/bytealg.IndexByteString", "internal/bytealg.IndexString"], unfollowed := true, recurses := true, named := ["unicode/utf8.first", "unicode/utf8.acceptRanges", "internal/bytealg.MaxLen"], loops := true, apart := false, laid := [("unicode/utf8.acceptRanges", laid_unicode_utf8_acceptRanges), ("unicode/utf8.first", laid_unicode_utf8_first)], narrowed := true }
def TermRightsUptoSaid : Prop := termRightsUptoRow.holds Tryz.pinned (OpenSpec.upto termRightsSpec)

end Rows
end Go.Proofs.YtnjnfegafmhgnaaGreatDoor
