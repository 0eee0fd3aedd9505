/-
  DERIVED. GIVEN WITH THE SEED: THE CARDS: each row of YtpjolipkmemcoaaGreatDoorRows.lean that lists a variable, with what it lists TIED to the program's text (the seventh form; the later family's looks); each row that meets fmt, with fmt's text TOLD by the authors' own Lean function (tested against real Go, not proved from fmt's source: count such statements apart). THE CARD IS WHAT COUNTS. Prove the row's statement (the work); the ties are given (YtpjolipkmemcoaaGreatDoorTie.lean); close each card by the builder's one call (the guide's Derived/Test/ToyasCard.lean, 'card_holds'). Laid BY PROGRAM, IN A SANDBOX (cutbox-door.mjs). By AI agents, Wed Nov 11 2026. No macro, syntax, notation, axiom, sorry.
-/
import Derived.Test.YtpjolipkmemcoaaGreatDoorRows
import GoSem.ClaimSeven
namespace Go.Proofs.YtpjolipkmemcoaaGreatDoor
namespace Rows

/-- THE TIED CARD OF 'scholiumlaw01.NameAnswers'. -/
def nameAnswersCard : Claim7 := { stood := { row := nameAnswersRow, standIns := [], harness := (true, "132056dd092aa1f75cea6604af52338243de8dfc4a3349e4367fe1dd908d3477"), looks := false }, kinds := [], alts := [], laidByText := true, laidKinds := [.data, .data, .data, .data, .pinned], laidTests := true, laidLooks := .later }
def NameAnswersCardSaid : Prop := Claim7.holds Tryz.pinned (.plain (OpenSpec.ofChange nameAnswersSpec)) nameAnswersCard

/-- THE TIED CARD OF 'scholiumlaw01.NameParts'. -/
def namePartsCard : Claim7 := { stood := { row := namePartsRow, standIns := [], harness := (true, "132056dd092aa1f75cea6604af52338243de8dfc4a3349e4367fe1dd908d3477"), looks := false }, kinds := [], alts := [], laidByText := true, laidKinds := [.data, .data, .data, .data, .pinned], laidTests := true, laidLooks := .later }
def NamePartsCardSaid : Prop := Claim7.holds Tryz.pinned (.plain (OpenSpec.ofChange namePartsSpec)) namePartsCard

/-- THE TIED CARD OF 'scholiumlaw01.NameFresh'. -/
def nameFreshCard : Claim7 := { stood := { row := nameFreshRow, standIns := [], harness := (true, "132056dd092aa1f75cea6604af52338243de8dfc4a3349e4367fe1dd908d3477"), looks := false }, kinds := [], alts := [], laidByText := true, laidKinds := [.data, .data, .data, .data, .pinned], laidTests := true, laidLooks := .later }
def NameFreshCardSaid : Prop := Claim7.holds Tryz.pinned (.plain (OpenSpec.ofChange nameFreshSpec)) nameFreshCard

/-- THE TIED CARD OF 'scholiumlaw01.NameUnder'. -/
def nameUnderCard : Claim7 := { stood := { row := nameUnderRow, standIns := [], harness := (true, "132056dd092aa1f75cea6604af52338243de8dfc4a3349e4367fe1dd908d3477"), looks := false }, kinds := [], alts := [], laidByText := true, laidKinds := [.data, .data, .data, .data, .pinned], laidTests := true, laidLooks := .later }
def NameUnderCardSaid : Prop := Claim7.holds Tryz.pinned (.plain (OpenSpec.ofChange nameUnderSpec)) nameUnderCard

/-- THE TIED CARD OF 'scholiumlaw01.NameSorts'. -/
def nameSortsCard : Claim7 := { stood := { row := nameSortsRow, standIns := [], harness := (true, "132056dd092aa1f75cea6604af52338243de8dfc4a3349e4367fe1dd908d3477"), looks := false }, kinds := [], alts := [], laidByText := true, laidKinds := [.data, .data, .data, .data, .pinned], laidTests := true, laidLooks := .later }
def NameSortsCardSaid : Prop := Claim7.holds Tryz.pinned (.plain (OpenSpec.ofChange nameSortsSpec)) nameSortsCard

/-- THE SECOND FORM's CARD OF 'scholiumlaw01.NameAnswers'. -/
def nameAnswersUptoCard : Claim7 := { stood := { row := nameAnswersUptoRow, standIns := [], harness := (true, "132056dd092aa1f75cea6604af52338243de8dfc4a3349e4367fe1dd908d3477"), looks := false }, kinds := [], alts := [], laidByText := true, laidKinds := [.data, .data, .data, .data, .pinned], laidTests := true, laidLooks := .later }
def NameAnswersUptoCardSaid : Prop := Claim7.holds Tryz.pinned (.plain (OpenSpec.upto nameAnswersSpec)) nameAnswersUptoCard

/-- THE SECOND FORM's CARD OF 'scholiumlaw01.NameParts'. -/
def namePartsUptoCard : Claim7 := { stood := { row := namePartsUptoRow, standIns := [], harness := (true, "132056dd092aa1f75cea6604af52338243de8dfc4a3349e4367fe1dd908d3477"), looks := false }, kinds := [], alts := [], laidByText := true, laidKinds := [.data, .data, .data, .data, .pinned], laidTests := true, laidLooks := .later }
def NamePartsUptoCardSaid : Prop := Claim7.holds Tryz.pinned (.plain (OpenSpec.upto namePartsSpec)) namePartsUptoCard

/-- THE SECOND FORM's CARD OF 'scholiumlaw01.NameFresh'. -/
def nameFreshUptoCard : Claim7 := { stood := { row := nameFreshUptoRow, standIns := [], harness := (true, "132056dd092aa1f75cea6604af52338243de8dfc4a3349e4367fe1dd908d3477"), looks := false }, kinds := [], alts := [], laidByText := true, laidKinds := [.data, .data, .data, .data, .pinned], laidTests := true, laidLooks := .later }
def NameFreshUptoCardSaid : Prop := Claim7.holds Tryz.pinned (.plain (OpenSpec.upto nameFreshSpec)) nameFreshUptoCard

/-- THE SECOND FORM's CARD OF 'scholiumlaw01.NameUnder'. -/
def nameUnderUptoCard : Claim7 := { stood := { row := nameUnderUptoRow, standIns := [], harness := (true, "132056dd092aa1f75cea6604af52338243de8dfc4a3349e4367fe1dd908d3477"), looks := false }, kinds := [], alts := [], laidByText := true, laidKinds := [.data, .data, .data, .data, .pinned], laidTests := true, laidLooks := .later }
def NameUnderUptoCardSaid : Prop := Claim7.holds Tryz.pinned (.plain (OpenSpec.upto nameUnderSpec)) nameUnderUptoCard

/-- THE SECOND FORM's CARD OF 'scholiumlaw01.NameSorts'. -/
def nameSortsUptoCard : Claim7 := { stood := { row := nameSortsUptoRow, standIns := [], harness := (true, "132056dd092aa1f75cea6604af52338243de8dfc4a3349e4367fe1dd908d3477"), looks := false }, kinds := [], alts := [], laidByText := true, laidKinds := [.data, .data, .data, .data, .pinned], laidTests := true, laidLooks := .later }
def NameSortsUptoCardSaid : Prop := Claim7.holds Tryz.pinned (.plain (OpenSpec.upto nameSortsSpec)) nameSortsUptoCard
end Rows
end Go.Proofs.YtpjolipkmemcoaaGreatDoor
