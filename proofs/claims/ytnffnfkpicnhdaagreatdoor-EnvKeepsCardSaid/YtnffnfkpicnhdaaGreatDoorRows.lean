/-
  NARROWER THAN 'FOR EVERY INPUT', by the rows' own cells (each row's printed sentence says how): VersCalls: laid · VersKeeps: laid · VersNumbers: laid · EnvParts: loops, laid · EnvKeeps: loops, laid.
  DERIVED. THE GIVEN ROWS OF THIS SEAT. 5 by the template 'for every input the law returns true; each argument reads behind the call as it read before'; 0 by the template 'total and deterministic' (their statements: YtnffnfkpicnhdaaGreatDoorTotals.lean).
  GIVEN WITH THE SEED: the statements are not yours to turn. If you find one false, say at which input.
  Laid BY PROGRAM, IN A SANDBOX (cutbox-rows.mjs): the forced cells as the released guide's own fill.sh prints them over the translation b4b60191302351bd… (all of the seat's roots in one cut). By AI agents, Wed Nov 11 2026. No macro, syntax, notation, axiom, sorry.
-/
import Derived.Test.YtnffnfkpicnhdaaGreatDoorChecked
import GoSem.PinnedTables
import GoSem.Claim
import GoSem.ClaimJoined
import GoSem.ClaimMapViews
import Derived.JoinedTies
import Derived.KernelRfl
namespace Go.Proofs.YtnffnfkpicnhdaaGreatDoor
/- THE CELL 'sum', in the pinned program and in every row, IS THE sha256 OF THE DUMP (.gsa) THAT YtnffnfkpicnhdaaGreatDoorProg.lean LOADS. Nothing in Lean hashes anything: it is a label: what it is worth is what the hold of that sum in a sandbox is worth. -/
noncomputable def Tryz.pinned : Pinned := { name := "ytnffnfkpicnhdaagreatdoor", sum := "b4b60191302351bdc822cde3a6ba025160aeb03622f0ffca2276d51660580de5", checked := Tryz.checked }
namespace Rows
def none {H : Type} : Left H := { results := [], args := [] }

/- WHAT THE LISTED PACKAGE-LEVEL VARIABLES READ AS WHEN THE CALL BEGINS. Each datum BY PROGRAM (the guide's laid-datum.mjs) off the statement by which the dump's own 'gosem.cut.vars' lays the variable. In a bare row this is a premise. The card (YtnffnfkpicnhdaaGreatDoorCards.lean) ties it to the program's text. -/
def laid_unicode_utf8_acceptRanges {H : Type} : DataW H := .agg [.agg [.lit (.int .u8 128), .lit (.int .u8 191)], .agg [.lit (.int .u8 160), .lit (.int .u8 191)], .agg [.lit (.int .u8 128), .lit (.int .u8 159)], .agg [.lit (.int .u8 144), .lit (.int .u8 191)], .agg [.lit (.int .u8 128), .lit (.int .u8 143)], .agg [.lit (.int .u8 0), .lit (.int .u8 0)], .agg [.lit (.int .u8 0), .lit (.int .u8 0)], .agg [.lit (.int .u8 0), .lit (.int .u8 0)], .agg [.lit (.int .u8 0), .lit (.int .u8 0)], .agg [.lit (.int .u8 0), .lit (.int .u8 0)], .agg [.lit (.int .u8 0), .lit (.int .u8 0)], .agg [.lit (.int .u8 0), .lit (.int .u8 0)], .agg [.lit (.int .u8 0), .lit (.int .u8 0)], .agg [.lit (.int .u8 0), .lit (.int .u8 0)], .agg [.lit (.int .u8 0), .lit (.int .u8 0)], .agg [.lit (.int .u8 0), .lit (.int .u8 0)]]
/-- One of Go's own tables, pinned by name: the form's constant. -/
def laid_unicode_utf8_first : DataW Unit := Go.Pinned.utf8First

/-- 'scholiumlaw22.VersCalls': WHATEVER THE INPUT: true; the input reads as it did. -/
def versCallsSpec : ChangeSpec := { name := "versCalls", fn := fun _ => fun
  | [d1, d2, d3, d4] => { results := [.lit (.bool true)], args := [d1, d2, d3, d4] }
  | _ => none }
def versCallsRow : OpenClaim := { program := "ytnffnfkpicnhdaagreatdoor", sum := "b4b60191302351bdc822cde3a6ba025160aeb03622f0ffca2276d51660580de5", func := "scholium/scholiumlaw22.VersCalls", spec := "versCalls", inPlace := ["internal/bytealg.IndexByteString", "internal/bytealg.IndexString"], unfollowed := true, recurses := true, named := ["unicode/utf8.first", "unicode/utf8.acceptRanges", "internal/bytealg.MaxLen"], apart := false, laid := [("unicode/utf8.acceptRanges", laid_unicode_utf8_acceptRanges), ("unicode/utf8.first", laid_unicode_utf8_first)] }
def VersCallsSaid : Prop := versCallsRow.holds Tryz.pinned (OpenSpec.ofChange versCallsSpec)

/-- ITS FALSE NEIGHBOUR: 'it returns false'. Refute it at one input. -/
def versCallsWrong : ChangeSpec := { name := "versCalls", fn := fun _ => fun
  | [d1, d2, d3, d4] => { results := [.lit (.bool false)], args := [d1, d2, d3, d4] }
  | _ => none }
def VersCallsWrongFalsely : Prop := versCallsRow.holds Tryz.pinned (OpenSpec.ofChange versCallsWrong)

/-- 'scholiumlaw22.VersKeeps': WHATEVER THE INPUT: true; the input reads as it did. -/
def versKeepsSpec : ChangeSpec := { name := "versKeeps", fn := fun _ => fun
  | [d1, d2] => { results := [.lit (.bool true)], args := [d1, d2] }
  | _ => none }
def versKeepsRow : OpenClaim := { program := "ytnffnfkpicnhdaagreatdoor", sum := "b4b60191302351bdc822cde3a6ba025160aeb03622f0ffca2276d51660580de5", func := "scholium/scholiumlaw22.VersKeeps", spec := "versKeeps", inPlace := ["internal/bytealg.IndexByteString", "internal/bytealg.IndexString"], unfollowed := true, recurses := true, named := ["unicode/utf8.first", "unicode/utf8.acceptRanges", "internal/bytealg.MaxLen"], apart := false, laid := [("unicode/utf8.acceptRanges", laid_unicode_utf8_acceptRanges), ("unicode/utf8.first", laid_unicode_utf8_first)] }
def VersKeepsSaid : Prop := versKeepsRow.holds Tryz.pinned (OpenSpec.ofChange versKeepsSpec)

/-- ITS FALSE NEIGHBOUR: 'it returns false'. Refute it at one input. -/
def versKeepsWrong : ChangeSpec := { name := "versKeeps", fn := fun _ => fun
  | [d1, d2] => { results := [.lit (.bool false)], args := [d1, d2] }
  | _ => none }
def VersKeepsWrongFalsely : Prop := versKeepsRow.holds Tryz.pinned (OpenSpec.ofChange versKeepsWrong)

/-- 'scholiumlaw22.VersNumbers': WHATEVER THE INPUT: true; the input reads as it did. -/
def versNumbersSpec : ChangeSpec := { name := "versNumbers", fn := fun _ => fun
  | [d1, d2] => { results := [.lit (.bool true)], args := [d1, d2] }
  | _ => none }
def versNumbersRow : OpenClaim := { program := "ytnffnfkpicnhdaagreatdoor", sum := "b4b60191302351bdc822cde3a6ba025160aeb03622f0ffca2276d51660580de5", func := "scholium/scholiumlaw22.VersNumbers", spec := "versNumbers", inPlace := ["internal/bytealg.IndexByteString", "internal/bytealg.IndexString"], unfollowed := true, recurses := true, named := ["unicode/utf8.first", "unicode/utf8.acceptRanges", "internal/bytealg.MaxLen"], apart := false, laid := [("unicode/utf8.acceptRanges", laid_unicode_utf8_acceptRanges), ("unicode/utf8.first", laid_unicode_utf8_first)] }
def VersNumbersSaid : Prop := versNumbersRow.holds Tryz.pinned (OpenSpec.ofChange versNumbersSpec)

/-- ITS FALSE NEIGHBOUR: 'it returns false'. Refute it at one input. -/
def versNumbersWrong : ChangeSpec := { name := "versNumbers", fn := fun _ => fun
  | [d1, d2] => { results := [.lit (.bool false)], args := [d1, d2] }
  | _ => none }
def VersNumbersWrongFalsely : Prop := versNumbersRow.holds Tryz.pinned (OpenSpec.ofChange versNumbersWrong)

/-- 'scholiumlaw12.EnvParts': WHATEVER THE INPUT: true; the input reads as it did. -/
def envPartsSpec : ChangeSpec := { name := "envParts", fn := fun _ => fun
  | [d] => { results := [.lit (.bool true)], args := [d] }
  | _ => none }
def envPartsRow : OpenClaim := { program := "ytnffnfkpicnhdaagreatdoor", sum := "b4b60191302351bdc822cde3a6ba025160aeb03622f0ffca2276d51660580de5", func := "scholium/scholiumlaw12.EnvParts", spec := "envParts", inPlace := ["internal/bytealg.IndexByteString", "internal/bytealg.IndexString"], unfollowed := true, recurses := true, named := ["unicode/utf8.first", "unicode/utf8.acceptRanges", "internal/bytealg.MaxLen"], loops := true, apart := false, laid := [("unicode/utf8.acceptRanges", laid_unicode_utf8_acceptRanges), ("unicode/utf8.first", laid_unicode_utf8_first)] }
def EnvPartsSaid : Prop := envPartsRow.holds Tryz.pinned (OpenSpec.ofChange envPartsSpec)

/-- ITS FALSE NEIGHBOUR: 'it returns false'. Refute it at one input. -/
def envPartsWrong : ChangeSpec := { name := "envParts", fn := fun _ => fun
  | [d] => { results := [.lit (.bool false)], args := [d] }
  | _ => none }
def EnvPartsWrongFalsely : Prop := envPartsRow.holds Tryz.pinned (OpenSpec.ofChange envPartsWrong)

/-- 'scholiumlaw12.EnvKeeps': WHATEVER THE INPUT: true; the input reads as it did. -/
def envKeepsSpec : ChangeSpec := { name := "envKeeps", fn := fun _ => fun
  | [d] => { results := [.lit (.bool true)], args := [d] }
  | _ => none }
def envKeepsRow : OpenClaim := { program := "ytnffnfkpicnhdaagreatdoor", sum := "b4b60191302351bdc822cde3a6ba025160aeb03622f0ffca2276d51660580de5", func := "scholium/scholiumlaw12.EnvKeeps", spec := "envKeeps", inPlace := ["internal/bytealg.IndexByteString", "internal/bytealg.IndexString"], unfollowed := true, recurses := true, named := ["unicode/utf8.first", "unicode/utf8.acceptRanges", "internal/bytealg.MaxLen"], loops := true, apart := false, laid := [("unicode/utf8.acceptRanges", laid_unicode_utf8_acceptRanges), ("unicode/utf8.first", laid_unicode_utf8_first)] }
def EnvKeepsSaid : Prop := envKeepsRow.holds Tryz.pinned (OpenSpec.ofChange envKeepsSpec)

/-- ITS FALSE NEIGHBOUR: 'it returns false'. Refute it at one input. -/
def envKeepsWrong : ChangeSpec := { name := "envKeeps", fn := fun _ => fun
  | [d] => { results := [.lit (.bool false)], args := [d] }
  | _ => none }
def EnvKeepsWrongFalsely : Prop := envKeepsRow.holds Tryz.pinned (OpenSpec.ofChange envKeepsWrong)

/- THE SECOND FORM. 'bulk': how many values and letters a reading holds, each counted each time it is reached (what is shared counts as often as it is met; a slice's spare places count too). A statement '..UptoSaid' is the law's where the arguments, and the package variables that the reading takes, are together of bulk at most 1048576: NARROWER than '..Said'. Prove '..Said' where nothing that the law and all that it calls make is longer than what came in: it says more and counts as full. Else prove '..UptoSaid'. A law counts once. -/
mutual
def uptoBulk {H : Type} : DataW H → Nat
  | .lit (.string bytes) => bytes.length + 1
  | .lit _ => 1
  | .nil => 1
  | .ptr d => uptoBulk d + 1
  | .slice elems spare => uptoBulkAll elems + uptoBulkAll spare + 1
  | .agg parts => uptoBulkAll parts + 1
  | .iface _ d => uptoBulk d + 1
  | .map entries => uptoBulkEntries entries + 1
  | .held _ => 1
def uptoBulkAll {H : Type} : List (DataW H) → Nat
  | [] => 0
  | d :: r => uptoBulk d + uptoBulkAll r
def uptoBulkEntries {H : Type} : List (Lit × DataW H) → Nat
  | [] => 0
  | x :: r => uptoBulkEntry x + uptoBulkEntries r
def uptoBulkEntry {H : Type} : Lit × DataW H → Nat
  | (.string bytes, d) => bytes.length + uptoBulk d + 1
  | (_, d) => uptoBulk d + 1
 end
def uptoSmall : (H : Type) → List (DataW H) → Bool := fun _ ds => decide (uptoBulkAll ds ≤ 1048576)
def OpenSpec.upto (s : _root_.Go.ChangeSpec) : _root_.Go.OpenSpec := { _root_.Go.OpenSpec.ofChange s with cond := some uptoSmall }

/-- 'scholiumlaw22.VersCalls', WHERE WHAT IT READS IS OF BULK AT MOST 1048576: true; the input reads as it did. -/
def versCallsUptoRow : OpenClaim := { program := "ytnffnfkpicnhdaagreatdoor", sum := "b4b60191302351bdc822cde3a6ba025160aeb03622f0ffca2276d51660580de5", func := "scholium/scholiumlaw22.VersCalls", spec := "versCalls", inPlace := ["internal/bytealg.IndexByteString", "internal/bytealg.IndexString"], unfollowed := true, recurses := true, named := ["unicode/utf8.first", "unicode/utf8.acceptRanges", "internal/bytealg.MaxLen"], apart := false, laid := [("unicode/utf8.acceptRanges", laid_unicode_utf8_acceptRanges), ("unicode/utf8.first", laid_unicode_utf8_first)], narrowed := true }
def VersCallsUptoSaid : Prop := versCallsUptoRow.holds Tryz.pinned (OpenSpec.upto versCallsSpec)

/-- 'scholiumlaw22.VersKeeps', WHERE WHAT IT READS IS OF BULK AT MOST 1048576: true; the input reads as it did. -/
def versKeepsUptoRow : OpenClaim := { program := "ytnffnfkpicnhdaagreatdoor", sum := "b4b60191302351bdc822cde3a6ba025160aeb03622f0ffca2276d51660580de5", func := "scholium/scholiumlaw22.VersKeeps", spec := "versKeeps", inPlace := ["internal/bytealg.IndexByteString", "internal/bytealg.IndexString"], unfollowed := true, recurses := true, named := ["unicode/utf8.first", "unicode/utf8.acceptRanges", "internal/bytealg.MaxLen"], apart := false, laid := [("unicode/utf8.acceptRanges", laid_unicode_utf8_acceptRanges), ("unicode/utf8.first", laid_unicode_utf8_first)], narrowed := true }
def VersKeepsUptoSaid : Prop := versKeepsUptoRow.holds Tryz.pinned (OpenSpec.upto versKeepsSpec)

/-- 'scholiumlaw22.VersNumbers', WHERE WHAT IT READS IS OF BULK AT MOST 1048576: true; the input reads as it did. -/
def versNumbersUptoRow : OpenClaim := { program := "ytnffnfkpicnhdaagreatdoor", sum := "b4b60191302351bdc822cde3a6ba025160aeb03622f0ffca2276d51660580de5", func := "scholium/scholiumlaw22.VersNumbers", spec := "versNumbers", inPlace := ["internal/bytealg.IndexByteString", "internal/bytealg.IndexString"], unfollowed := true, recurses := true, named := ["unicode/utf8.first", "unicode/utf8.acceptRanges", "internal/bytealg.MaxLen"], apart := false, laid := [("unicode/utf8.acceptRanges", laid_unicode_utf8_acceptRanges), ("unicode/utf8.first", laid_unicode_utf8_first)], narrowed := true }
def VersNumbersUptoSaid : Prop := versNumbersUptoRow.holds Tryz.pinned (OpenSpec.upto versNumbersSpec)

/-- 'scholiumlaw12.EnvParts', WHERE WHAT IT READS IS OF BULK AT MOST 1048576: true; the input reads as it did. -/
def envPartsUptoRow : OpenClaim := { program := "ytnffnfkpicnhdaagreatdoor", sum := "b4b60191302351bdc822cde3a6ba025160aeb03622f0ffca2276d51660580de5", func := "scholium/scholiumlaw12.EnvParts", spec := "envParts", inPlace := ["internal/bytealg.IndexByteString", "internal/bytealg.IndexString"], unfollowed := true, recurses := true, named := ["unicode/utf8.first", "unicode/utf8.acceptRanges", "internal/bytealg.MaxLen"], loops := true, apart := false, laid := [("unicode/utf8.acceptRanges", laid_unicode_utf8_acceptRanges), ("unicode/utf8.first", laid_unicode_utf8_first)], narrowed := true }
def EnvPartsUptoSaid : Prop := envPartsUptoRow.holds Tryz.pinned (OpenSpec.upto envPartsSpec)

/-- 'scholiumlaw12.EnvKeeps', WHERE WHAT IT READS IS OF BULK AT MOST 1048576: true; the input reads as it did. -/
def envKeepsUptoRow : OpenClaim := { program := "ytnffnfkpicnhdaagreatdoor", sum := "b4b60191302351bdc822cde3a6ba025160aeb03622f0ffca2276d51660580de5", func := "scholium/scholiumlaw12.EnvKeeps", spec := "envKeeps", inPlace := ["internal/bytealg.IndexByteString", "internal/bytealg.IndexString"], unfollowed := true, recurses := true, named := ["unicode/utf8.first", "unicode/utf8.acceptRanges", "internal/bytealg.MaxLen"], loops := true, apart := false, laid := [("unicode/utf8.acceptRanges", laid_unicode_utf8_acceptRanges), ("unicode/utf8.first", laid_unicode_utf8_first)], narrowed := true }
def EnvKeepsUptoSaid : Prop := envKeepsUptoRow.holds Tryz.pinned (OpenSpec.upto envKeepsSpec)

end Rows
end Go.Proofs.YtnffnfkpicnhdaaGreatDoor
