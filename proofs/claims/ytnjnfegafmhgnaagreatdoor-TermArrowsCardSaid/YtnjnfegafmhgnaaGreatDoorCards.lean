/-
  DERIVED. GIVEN WITH THE SEED: THE CARDS: each row of YtnjnfegafmhgnaaGreatDoorRows.lean that lists a variable, with what it lists TIED to the program's text (the seventh form; the later family's looks); each row that meets fmt, with fmt's text TOLD by the authors' own Lean function (tested against real Go, not proved from fmt's source: count such statements apart). THE CARD IS WHAT COUNTS. Prove the row's statement (the work); the ties are given (YtnjnfegafmhgnaaGreatDoorTie.lean); close each card by the builder's one call (the guide's Derived/Test/ToyasCard.lean, 'card_holds'). Laid BY PROGRAM, IN A SANDBOX (cutbox-door.mjs). By AI agents, Wed Nov 11 2026. No macro, syntax, notation, axiom, sorry.
-/
import Derived.Test.YtnjnfegafmhgnaaGreatDoorRows
import GoSem.ClaimSeven
namespace Go.Proofs.YtnjnfegafmhgnaaGreatDoor
namespace Rows

/-- THE TIED CARD OF 'scholiumlaw11.DeclAnswers'. -/
def declAnswersCard : Claim7 := { stood := { row := declAnswersRow, standIns := [], harness := (true, "00825c80391d992e517886191b76c1f1625791588d1e6b2fa024777e9fc331f2"), looks := false }, kinds := [], alts := [], laidByText := true, laidKinds := [.data, .pinned], laidTests := true, laidLooks := .later }
def DeclAnswersCardSaid : Prop := Claim7.holds Tryz.pinned (.plain (OpenSpec.ofChange declAnswersSpec)) declAnswersCard

/-- THE TIED CARD OF 'scholiumlaw11.DeclClones'. -/
def declClonesCard : Claim7 := { stood := { row := declClonesRow, standIns := [], harness := (true, "00825c80391d992e517886191b76c1f1625791588d1e6b2fa024777e9fc331f2"), looks := false }, kinds := [], alts := [], laidByText := true, laidKinds := [.data, .pinned], laidTests := true, laidLooks := .later }
def DeclClonesCardSaid : Prop := Claim7.holds Tryz.pinned (.plain (OpenSpec.ofChange declClonesSpec)) declClonesCard

/-- THE TIED CARD OF 'scholiumlaw08.PackAnswers'. -/
def packAnswersCard : Claim7 := { stood := { row := packAnswersRow, standIns := [], harness := (true, "00825c80391d992e517886191b76c1f1625791588d1e6b2fa024777e9fc331f2"), looks := false }, kinds := [], alts := [], laidByText := true, laidKinds := [.data, .pinned], laidTests := true, laidLooks := .later }
def PackAnswersCardSaid : Prop := Claim7.holds Tryz.pinned (.plain (OpenSpec.ofChange packAnswersSpec)) packAnswersCard

/-- THE TIED CARD OF 'scholiumlaw08.PackOne'. -/
def packOneCard : Claim7 := { stood := { row := packOneRow, standIns := [], harness := (true, "00825c80391d992e517886191b76c1f1625791588d1e6b2fa024777e9fc331f2"), looks := false }, kinds := [], alts := [], laidByText := true, laidKinds := [.data, .pinned], laidTests := true, laidLooks := .later }
def PackOneCardSaid : Prop := Claim7.holds Tryz.pinned (.plain (OpenSpec.ofChange packOneSpec)) packOneCard

/-- THE TIED CARD OF 'scholiumlaw04.TermArrows'. -/
def termArrowsCard : Claim7 := { stood := { row := termArrowsRow, standIns := [], harness := (true, "00825c80391d992e517886191b76c1f1625791588d1e6b2fa024777e9fc331f2"), looks := false }, kinds := [], alts := [], laidByText := true, laidKinds := [.data, .pinned], laidTests := true, laidLooks := .later }
def TermArrowsCardSaid : Prop := Claim7.holds Tryz.pinned (.plain (OpenSpec.ofChange termArrowsSpec)) termArrowsCard

/-- THE TIED CARD OF 'scholiumlaw04.TermMakes'. -/
def termMakesCard : Claim7 := { stood := { row := termMakesRow, standIns := [], harness := (true, "00825c80391d992e517886191b76c1f1625791588d1e6b2fa024777e9fc331f2"), looks := false }, kinds := [], alts := [], laidByText := true, laidKinds := [.data, .pinned], laidTests := true, laidLooks := .later }
def TermMakesCardSaid : Prop := Claim7.holds Tryz.pinned (.plain (OpenSpec.ofChange termMakesSpec)) termMakesCard

/-- THE TIED CARD OF 'scholiumlaw04.TermRights'. -/
def termRightsCard : Claim7 := { stood := { row := termRightsRow, standIns := [], harness := (true, "00825c80391d992e517886191b76c1f1625791588d1e6b2fa024777e9fc331f2"), looks := false }, kinds := [], alts := [], laidByText := true, laidKinds := [.data, .pinned], laidTests := true, laidLooks := .later }
def TermRightsCardSaid : Prop := Claim7.holds Tryz.pinned (.plain (OpenSpec.ofChange termRightsSpec)) termRightsCard

/-- THE SECOND FORM's CARD OF 'scholiumlaw11.DeclAnswers'. -/
def declAnswersUptoCard : Claim7 := { stood := { row := declAnswersUptoRow, standIns := [], harness := (true, "00825c80391d992e517886191b76c1f1625791588d1e6b2fa024777e9fc331f2"), looks := false }, kinds := [], alts := [], laidByText := true, laidKinds := [.data, .pinned], laidTests := true, laidLooks := .later }
def DeclAnswersUptoCardSaid : Prop := Claim7.holds Tryz.pinned (.plain (OpenSpec.upto declAnswersSpec)) declAnswersUptoCard

/-- THE SECOND FORM's CARD OF 'scholiumlaw11.DeclClones'. -/
def declClonesUptoCard : Claim7 := { stood := { row := declClonesUptoRow, standIns := [], harness := (true, "00825c80391d992e517886191b76c1f1625791588d1e6b2fa024777e9fc331f2"), looks := false }, kinds := [], alts := [], laidByText := true, laidKinds := [.data, .pinned], laidTests := true, laidLooks := .later }
def DeclClonesUptoCardSaid : Prop := Claim7.holds Tryz.pinned (.plain (OpenSpec.upto declClonesSpec)) declClonesUptoCard

/-- THE SECOND FORM's CARD OF 'scholiumlaw08.PackAnswers'. -/
def packAnswersUptoCard : Claim7 := { stood := { row := packAnswersUptoRow, standIns := [], harness := (true, "00825c80391d992e517886191b76c1f1625791588d1e6b2fa024777e9fc331f2"), looks := false }, kinds := [], alts := [], laidByText := true, laidKinds := [.data, .pinned], laidTests := true, laidLooks := .later }
def PackAnswersUptoCardSaid : Prop := Claim7.holds Tryz.pinned (.plain (OpenSpec.upto packAnswersSpec)) packAnswersUptoCard

/-- THE SECOND FORM's CARD OF 'scholiumlaw08.PackOne'. -/
def packOneUptoCard : Claim7 := { stood := { row := packOneUptoRow, standIns := [], harness := (true, "00825c80391d992e517886191b76c1f1625791588d1e6b2fa024777e9fc331f2"), looks := false }, kinds := [], alts := [], laidByText := true, laidKinds := [.data, .pinned], laidTests := true, laidLooks := .later }
def PackOneUptoCardSaid : Prop := Claim7.holds Tryz.pinned (.plain (OpenSpec.upto packOneSpec)) packOneUptoCard

/-- THE SECOND FORM's CARD OF 'scholiumlaw04.TermArrows'. -/
def termArrowsUptoCard : Claim7 := { stood := { row := termArrowsUptoRow, standIns := [], harness := (true, "00825c80391d992e517886191b76c1f1625791588d1e6b2fa024777e9fc331f2"), looks := false }, kinds := [], alts := [], laidByText := true, laidKinds := [.data, .pinned], laidTests := true, laidLooks := .later }
def TermArrowsUptoCardSaid : Prop := Claim7.holds Tryz.pinned (.plain (OpenSpec.upto termArrowsSpec)) termArrowsUptoCard

/-- THE SECOND FORM's CARD OF 'scholiumlaw04.TermMakes'. -/
def termMakesUptoCard : Claim7 := { stood := { row := termMakesUptoRow, standIns := [], harness := (true, "00825c80391d992e517886191b76c1f1625791588d1e6b2fa024777e9fc331f2"), looks := false }, kinds := [], alts := [], laidByText := true, laidKinds := [.data, .pinned], laidTests := true, laidLooks := .later }
def TermMakesUptoCardSaid : Prop := Claim7.holds Tryz.pinned (.plain (OpenSpec.upto termMakesSpec)) termMakesUptoCard

/-- THE SECOND FORM's CARD OF 'scholiumlaw04.TermRights'. -/
def termRightsUptoCard : Claim7 := { stood := { row := termRightsUptoRow, standIns := [], harness := (true, "00825c80391d992e517886191b76c1f1625791588d1e6b2fa024777e9fc331f2"), looks := false }, kinds := [], alts := [], laidByText := true, laidKinds := [.data, .pinned], laidTests := true, laidLooks := .later }
def TermRightsUptoCardSaid : Prop := Claim7.holds Tryz.pinned (.plain (OpenSpec.upto termRightsSpec)) termRightsUptoCard
end Rows
end Go.Proofs.YtnjnfegafmhgnaaGreatDoor
