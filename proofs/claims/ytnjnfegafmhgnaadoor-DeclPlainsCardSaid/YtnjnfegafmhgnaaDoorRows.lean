/-
  NARROWER THAN 'FOR EVERY INPUT', by the rows' own cells (each row's printed sentence says how): DeclPlains: loops, laid · DeclKinds: loops, laid · PackBack: loops, laid · PackHashes: loops, laid · PackTerms: loops, laid.
  DERIVED. THE GIVEN ROWS OF THIS SEAT. 5 by the template 'for every input the law returns true; each argument reads behind the call as it read before'; 0 by the template 'total and deterministic' (their statements: YtnjnfegafmhgnaaDoorTotals.lean).
  GIVEN WITH THE SEED: the statements are not yours to turn. If you find one false, say at which input.
  Laid BY PROGRAM, IN A SANDBOX (cutbox-rows.mjs): the forced cells as the released guide's own fill.sh prints them over the translation 7ecc647cd4e12f64… (all of the seat's roots in one cut). By AI agents, Wed Nov 11 2026. No macro, syntax, notation, axiom, sorry.
-/
import Derived.Test.YtnjnfegafmhgnaaDoorChecked
import GoSem.PinnedTables
import GoSem.Claim
import GoSem.ClaimJoined
import GoSem.ClaimMapViews
import Derived.JoinedTies
import Derived.KernelRfl
namespace Go.Proofs.YtnjnfegafmhgnaaDoor
/- THE CELL 'sum', in the pinned program and in every row, IS THE sha256 OF THE DUMP (.gsa) THAT YtnjnfegafmhgnaaDoorProg.lean LOADS. Nothing in Lean hashes anything: it is a label: what it is worth is what the hold of that sum in a sandbox is worth. -/
noncomputable def Tryd.pinned : Pinned := { name := "ytnjnfegafmhgnaadoor", sum := "7ecc647cd4e12f645a0254a7304d9f9aea13c403d85ae6bdf98de2ed7a255ca0", checked := Tryd.checked }
namespace Rows
def none {H : Type} : Left H := { results := [], args := [] }

/- WHAT THE LISTED PACKAGE-LEVEL VARIABLES READ AS WHEN THE CALL BEGINS. Each datum BY PROGRAM (the guide's laid-datum.mjs) off the statement by which the dump's own 'gosem.cut.vars' lays the variable. In a bare row this is a premise. The card (YtnjnfegafmhgnaaDoorCards.lean) ties it to the program's text. -/
def laid_unicode_utf8_acceptRanges {H : Type} : DataW H := .agg [.agg [.lit (.int .u8 128), .lit (.int .u8 191)], .agg [.lit (.int .u8 160), .lit (.int .u8 191)], .agg [.lit (.int .u8 128), .lit (.int .u8 159)], .agg [.lit (.int .u8 144), .lit (.int .u8 191)], .agg [.lit (.int .u8 128), .lit (.int .u8 143)], .agg [.lit (.int .u8 0), .lit (.int .u8 0)], .agg [.lit (.int .u8 0), .lit (.int .u8 0)], .agg [.lit (.int .u8 0), .lit (.int .u8 0)], .agg [.lit (.int .u8 0), .lit (.int .u8 0)], .agg [.lit (.int .u8 0), .lit (.int .u8 0)], .agg [.lit (.int .u8 0), .lit (.int .u8 0)], .agg [.lit (.int .u8 0), .lit (.int .u8 0)], .agg [.lit (.int .u8 0), .lit (.int .u8 0)], .agg [.lit (.int .u8 0), .lit (.int .u8 0)], .agg [.lit (.int .u8 0), .lit (.int .u8 0)], .agg [.lit (.int .u8 0), .lit (.int .u8 0)]]
/-- One of Go's own tables, pinned by name: the form's constant. -/
def laid_unicode_utf8_first : DataW Unit := Go.Pinned.utf8First

/-- 'scholiumlaw11.DeclPlains': WHATEVER THE INPUT: true; the input reads as it did. -/
def declPlainsSpec : ChangeSpec := { name := "declPlains", fn := fun _ => fun
  | [d1, d2] => { results := [.lit (.bool true)], args := [d1, d2] }
  | _ => none }
def declPlainsRow : OpenClaim := { program := "ytnjnfegafmhgnaadoor", sum := "7ecc647cd4e12f645a0254a7304d9f9aea13c403d85ae6bdf98de2ed7a255ca0", func := "scholium/scholiumlaw11.DeclPlains", spec := "declPlains", inPlace := ["internal/bytealg.IndexByteString", "internal/bytealg.IndexString"], unfollowed := true, recurses := true, named := ["unicode/utf8.first", "unicode/utf8.acceptRanges", "internal/bytealg.MaxLen"], loops := true, apart := false, laid := [("unicode/utf8.acceptRanges", laid_unicode_utf8_acceptRanges), ("unicode/utf8.first", laid_unicode_utf8_first)] }
def DeclPlainsSaid : Prop := declPlainsRow.holds Tryd.pinned (OpenSpec.ofChange declPlainsSpec)

/-- ITS FALSE NEIGHBOUR: 'it returns false'. Refute it at one input. -/
def declPlainsWrong : ChangeSpec := { name := "declPlains", fn := fun _ => fun
  | [d1, d2] => { results := [.lit (.bool false)], args := [d1, d2] }
  | _ => none }
def DeclPlainsWrongFalsely : Prop := declPlainsRow.holds Tryd.pinned (OpenSpec.ofChange declPlainsWrong)

/-- 'scholiumlaw11.DeclKinds': WHATEVER THE INPUT: true; the input reads as it did. -/
def declKindsSpec : ChangeSpec := { name := "declKinds", fn := fun _ => fun
  | [d1, d2] => { results := [.lit (.bool true)], args := [d1, d2] }
  | _ => none }
def declKindsRow : OpenClaim := { program := "ytnjnfegafmhgnaadoor", sum := "7ecc647cd4e12f645a0254a7304d9f9aea13c403d85ae6bdf98de2ed7a255ca0", func := "scholium/scholiumlaw11.DeclKinds", spec := "declKinds", inPlace := ["internal/bytealg.IndexByteString", "internal/bytealg.IndexString"], unfollowed := true, recurses := true, named := ["unicode/utf8.first", "unicode/utf8.acceptRanges", "internal/bytealg.MaxLen"], loops := true, apart := false, laid := [("unicode/utf8.acceptRanges", laid_unicode_utf8_acceptRanges), ("unicode/utf8.first", laid_unicode_utf8_first)] }
def DeclKindsSaid : Prop := declKindsRow.holds Tryd.pinned (OpenSpec.ofChange declKindsSpec)

/-- ITS FALSE NEIGHBOUR: 'it returns false'. Refute it at one input. -/
def declKindsWrong : ChangeSpec := { name := "declKinds", fn := fun _ => fun
  | [d1, d2] => { results := [.lit (.bool false)], args := [d1, d2] }
  | _ => none }
def DeclKindsWrongFalsely : Prop := declKindsRow.holds Tryd.pinned (OpenSpec.ofChange declKindsWrong)

/-- 'scholiumlaw08.PackBack': WHATEVER THE INPUT: true; the input reads as it did. -/
def packBackSpec : ChangeSpec := { name := "packBack", fn := fun _ => fun
  | [d1, d2, d3, d4] => { results := [.lit (.bool true)], args := [d1, d2, d3, d4] }
  | _ => none }
def packBackRow : OpenClaim := { program := "ytnjnfegafmhgnaadoor", sum := "7ecc647cd4e12f645a0254a7304d9f9aea13c403d85ae6bdf98de2ed7a255ca0", func := "scholium/scholiumlaw08.PackBack", spec := "packBack", inPlace := ["internal/bytealg.IndexByteString", "internal/bytealg.IndexString"], unfollowed := true, recurses := true, named := ["unicode/utf8.first", "unicode/utf8.acceptRanges", "internal/bytealg.MaxLen"], loops := true, apart := false, laid := [("unicode/utf8.acceptRanges", laid_unicode_utf8_acceptRanges), ("unicode/utf8.first", laid_unicode_utf8_first)] }
def PackBackSaid : Prop := packBackRow.holds Tryd.pinned (OpenSpec.ofChange packBackSpec)

/-- ITS FALSE NEIGHBOUR: 'it returns false'. Refute it at one input. -/
def packBackWrong : ChangeSpec := { name := "packBack", fn := fun _ => fun
  | [d1, d2, d3, d4] => { results := [.lit (.bool false)], args := [d1, d2, d3, d4] }
  | _ => none }
def PackBackWrongFalsely : Prop := packBackRow.holds Tryd.pinned (OpenSpec.ofChange packBackWrong)

/-- 'scholiumlaw08.PackHashes': WHATEVER THE INPUT: true; the input reads as it did. -/
def packHashesSpec : ChangeSpec := { name := "packHashes", fn := fun _ => fun
  | [d] => { results := [.lit (.bool true)], args := [d] }
  | _ => none }
def packHashesRow : OpenClaim := { program := "ytnjnfegafmhgnaadoor", sum := "7ecc647cd4e12f645a0254a7304d9f9aea13c403d85ae6bdf98de2ed7a255ca0", func := "scholium/scholiumlaw08.PackHashes", spec := "packHashes", inPlace := ["internal/bytealg.IndexByteString", "internal/bytealg.IndexString"], unfollowed := true, recurses := true, named := ["unicode/utf8.first", "unicode/utf8.acceptRanges", "internal/bytealg.MaxLen"], loops := true, apart := false, laid := [("unicode/utf8.acceptRanges", laid_unicode_utf8_acceptRanges), ("unicode/utf8.first", laid_unicode_utf8_first)] }
def PackHashesSaid : Prop := packHashesRow.holds Tryd.pinned (OpenSpec.ofChange packHashesSpec)

/-- ITS FALSE NEIGHBOUR: 'it returns false'. Refute it at one input. -/
def packHashesWrong : ChangeSpec := { name := "packHashes", fn := fun _ => fun
  | [d] => { results := [.lit (.bool false)], args := [d] }
  | _ => none }
def PackHashesWrongFalsely : Prop := packHashesRow.holds Tryd.pinned (OpenSpec.ofChange packHashesWrong)

/-- 'scholiumlaw08.PackTerms': WHATEVER THE INPUT: true; the input reads as it did. -/
def packTermsSpec : ChangeSpec := { name := "packTerms", fn := fun _ => fun
  | [d1, d2] => { results := [.lit (.bool true)], args := [d1, d2] }
  | _ => none }
def packTermsRow : OpenClaim := { program := "ytnjnfegafmhgnaadoor", sum := "7ecc647cd4e12f645a0254a7304d9f9aea13c403d85ae6bdf98de2ed7a255ca0", func := "scholium/scholiumlaw08.PackTerms", spec := "packTerms", inPlace := ["internal/bytealg.IndexByteString", "internal/bytealg.IndexString"], unfollowed := true, recurses := true, named := ["unicode/utf8.first", "unicode/utf8.acceptRanges", "internal/bytealg.MaxLen"], loops := true, apart := false, laid := [("unicode/utf8.acceptRanges", laid_unicode_utf8_acceptRanges), ("unicode/utf8.first", laid_unicode_utf8_first)] }
def PackTermsSaid : Prop := packTermsRow.holds Tryd.pinned (OpenSpec.ofChange packTermsSpec)

/-- ITS FALSE NEIGHBOUR: 'it returns false'. Refute it at one input. -/
def packTermsWrong : ChangeSpec := { name := "packTerms", fn := fun _ => fun
  | [d1, d2] => { results := [.lit (.bool false)], args := [d1, d2] }
  | _ => none }
def PackTermsWrongFalsely : Prop := packTermsRow.holds Tryd.pinned (OpenSpec.ofChange packTermsWrong)

/- THE SECOND FORM. 'bulk': how many values and letters a reading holds, each counted each time it is reached (what is shared counts as often as it is met; a slice's spare places count too). A statement '..UptoSaid' is the law's where the arguments, and the package variables that the reading takes, are together of bulk at most 1048576: NARROWER than '..Said'. Prove '..Said' where nothing that the law and all that it calls make is longer than what came in: it says more and counts as full. Else prove '..UptoSaid'. A law counts once. -/
mutual
def uptoBulk {H : Type} : DataW H → Nat
  | .lit (.string bytes) => bytes.length + 1
  | .lit _ => 1
  | .nil => 1
  | .ptr d => uptoBulk d + 1
  | .slice elems spare => uptoBulkAll elems + uptoBulkAll spare + 1
  | .agg parts => uptoBulkAll parts + 1
  | .iface _ d => uptoBulk d + 1
  | .map entries => uptoBulkEntries entries + 1
  | .held _ => 1
def uptoBulkAll {H : Type} : List (DataW H) → Nat
  | [] => 0
  | d :: r => uptoBulk d + uptoBulkAll r
def uptoBulkEntries {H : Type} : List (Lit × DataW H) → Nat
  | [] => 0
  | x :: r => uptoBulkEntry x + uptoBulkEntries r
def uptoBulkEntry {H : Type} : Lit × DataW H → Nat
  | (.string bytes, d) => bytes.length + uptoBulk d + 1
  | (_, d) => uptoBulk d + 1
 end
def uptoSmall : (H : Type) → List (DataW H) → Bool := fun _ ds => decide (uptoBulkAll ds ≤ 1048576)
def OpenSpec.upto (s : _root_.Go.ChangeSpec) : _root_.Go.OpenSpec := { _root_.Go.OpenSpec.ofChange s with cond := some uptoSmall }

/-- 'scholiumlaw11.DeclPlains', WHERE WHAT IT READS IS OF BULK AT MOST 1048576: true; the input reads as it did. -/
def declPlainsUptoRow : OpenClaim := { program := "ytnjnfegafmhgnaadoor", sum := "7ecc647cd4e12f645a0254a7304d9f9aea13c403d85ae6bdf98de2ed7a255ca0", func := "scholium/scholiumlaw11.DeclPlains", spec := "declPlains", inPlace := ["internal/bytealg.IndexByteString", "internal/bytealg.IndexString"], unfollowed := true, recurses := true, named := ["unicode/utf8.first", "unicode/utf8.acceptRanges", "internal/bytealg.MaxLen"], loops := true, apart := false, laid := [("unicode/utf8.acceptRanges", laid_unicode_utf8_acceptRanges), ("unicode/utf8.first", laid_unicode_utf8_first)], narrowed := true }
def DeclPlainsUptoSaid : Prop := declPlainsUptoRow.holds Tryd.pinned (OpenSpec.upto declPlainsSpec)

/-- 'scholiumlaw11.DeclKinds', WHERE WHAT IT READS IS OF BULK AT MOST 1048576: true; the input reads as it did. -/
def declKindsUptoRow : OpenClaim := { program := "ytnjnfegafmhgnaadoor", sum := "7ecc647cd4e12f645a0254a7304d9f9aea13c403d85ae6bdf98de2ed7a255ca0", func := "scholium/scholiumlaw11.DeclKinds", spec := "declKinds", inPlace := ["internal/bytealg.IndexByteString", "internal/bytealg.IndexString"], unfollowed := true, recurses := true, named := ["unicode/utf8.first", "unicode/utf8.acceptRanges", "internal/bytealg.MaxLen"], loops := true, apart := false, laid := [("unicode/utf8.acceptRanges", laid_unicode_utf8_acceptRanges), ("unicode/utf8.first", laid_unicode_utf8_first)], narrowed := true }
def DeclKindsUptoSaid : Prop := declKindsUptoRow.holds Tryd.pinned (OpenSpec.upto declKindsSpec)

/-- 'scholiumlaw08.PackBack', WHERE WHAT IT READS IS OF BULK AT MOST 1048576: true; the input reads as it did. -/
def packBackUptoRow : OpenClaim := { program := "ytnjnfegafmhgnaadoor", sum := "7ecc647cd4e12f645a0254a7304d9f9aea13c403d85ae6bdf98de2ed7a255ca0", func := "scholium/scholiumlaw08.PackBack", spec := "packBack", inPlace := ["internal/bytealg.IndexByteString", "internal/bytealg.IndexString"], unfollowed := true, recurses := true, named := ["unicode/utf8.first", "unicode/utf8.acceptRanges", "internal/bytealg.MaxLen"], loops := true, apart := false, laid := [("unicode/utf8.acceptRanges", laid_unicode_utf8_acceptRanges), ("unicode/utf8.first", laid_unicode_utf8_first)], narrowed := true }
def PackBackUptoSaid : Prop := packBackUptoRow.holds Tryd.pinned (OpenSpec.upto packBackSpec)

/-- 'scholiumlaw08.PackHashes', WHERE WHAT IT READS IS OF BULK AT MOST 1048576: true; the input reads as it did. -/
def packHashesUptoRow : OpenClaim := { program := "ytnjnfegafmhgnaadoor", sum := "7ecc647cd4e12f645a0254a7304d9f9aea13c403d85ae6bdf98de2ed7a255ca0", func := "scholium/scholiumlaw08.PackHashes", spec := "packHashes", inPlace := ["internal/bytealg.IndexByteString", "internal/bytealg.IndexString"], unfollowed := true, recurses := true, named := ["unicode/utf8.first", "unicode/utf8.acceptRanges", "internal/bytealg.MaxLen"], loops := true, apart := false, laid := [("unicode/utf8.acceptRanges", laid_unicode_utf8_acceptRanges), ("unicode/utf8.first", laid_unicode_utf8_first)], narrowed := true }
def PackHashesUptoSaid : Prop := packHashesUptoRow.holds Tryd.pinned (OpenSpec.upto packHashesSpec)

/-- 'scholiumlaw08.PackTerms', WHERE WHAT IT READS IS OF BULK AT MOST 1048576: true; the input reads as it did. -/
def packTermsUptoRow : OpenClaim := { program := "ytnjnfegafmhgnaadoor", sum := "7ecc647cd4e12f645a0254a7304d9f9aea13c403d85ae6bdf98de2ed7a255ca0", func := "scholium/scholiumlaw08.PackTerms", spec := "packTerms", inPlace := ["internal/bytealg.IndexByteString", "internal/bytealg.IndexString"], unfollowed := true, recurses := true, named := ["unicode/utf8.first", "unicode/utf8.acceptRanges", "internal/bytealg.MaxLen"], loops := true, apart := false, laid := [("unicode/utf8.acceptRanges", laid_unicode_utf8_acceptRanges), ("unicode/utf8.first", laid_unicode_utf8_first)], narrowed := true }
def PackTermsUptoSaid : Prop := packTermsUptoRow.holds Tryd.pinned (OpenSpec.upto packTermsSpec)

end Rows
end Go.Proofs.YtnjnfegafmhgnaaDoor
