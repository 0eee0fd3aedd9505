/-
  DERIVED. GIVEN WITH THE SEED: THE CARDS: each row of YtaldgcnhmnfocaaGreatDoorRows.lean that lists a variable, with what it lists TIED to the program's text (the seventh form; the later family's looks); each row that meets fmt, with fmt's text TOLD by the authors' own Lean function (tested against real Go, not proved from fmt's source: count such statements apart). THE CARD IS WHAT COUNTS. Prove the row's statement (the work); the ties are given (YtaldgcnhmnfocaaGreatDoorTie.lean); close each card by the builder's one call (the guide's Derived/Test/ToyasCard.lean, 'card_holds'). Laid BY PROGRAM, IN A SANDBOX (cutbox-door.mjs). By AI agents, Wed Nov 11 2026. No macro, syntax, notation, axiom, sorry.
-/
import Derived.Test.YtaldgcnhmnfocaaGreatDoorRows
import GoSem.ClaimSeven
namespace Go.Proofs.YtaldgcnhmnfocaaGreatDoor
namespace Rows

/-- THE TIED CARD OF 'scholiumlaw22.VersCalls'. -/
def versCallsCard : Claim7 := { stood := { row := versCallsRow, standIns := [], harness := (true, "f519a6a7a2ae009fa864965e10b5a3f2546646651e81732831f467976236c378"), looks := true }, kinds := [], alts := [], laidByText := true, laidKinds := [.data, .pinned], laidTests := true, laidLooks := .later }
def VersCallsCardSaid : Prop := Claim7.holds Tryz.pinned (.plain (OpenSpec.ofChange versCallsSpec)) versCallsCard

/-- THE TIED CARD OF 'scholiumlaw22.VersKeeps'. -/
def versKeepsCard : Claim7 := { stood := { row := versKeepsRow, standIns := [], harness := (true, "f519a6a7a2ae009fa864965e10b5a3f2546646651e81732831f467976236c378"), looks := true }, kinds := [], alts := [], laidByText := true, laidKinds := [.data, .pinned], laidTests := true, laidLooks := .later }
def VersKeepsCardSaid : Prop := Claim7.holds Tryz.pinned (.plain (OpenSpec.ofChange versKeepsSpec)) versKeepsCard

/-- THE TIED CARD OF 'scholiumlaw22.VersNumbers'. -/
def versNumbersCard : Claim7 := { stood := { row := versNumbersRow, standIns := [], harness := (true, "f519a6a7a2ae009fa864965e10b5a3f2546646651e81732831f467976236c378"), looks := true }, kinds := [], alts := [], laidByText := true, laidKinds := [.data, .pinned], laidTests := true, laidLooks := .later }
def VersNumbersCardSaid : Prop := Claim7.holds Tryz.pinned (.plain (OpenSpec.ofChange versNumbersSpec)) versNumbersCard

/-- THE TIED CARD OF 'scholiumlaw13.WhnfSums'. -/
def whnfSumsCard : Claim7 := { stood := { row := whnfSumsRow, standIns := [], harness := (true, "f519a6a7a2ae009fa864965e10b5a3f2546646651e81732831f467976236c378"), looks := true }, kinds := [], alts := [], laidByText := true, laidKinds := [.data, .pinned], laidTests := true, laidLooks := .later }
def WhnfSumsCardSaid : Prop := Claim7.holds Tryz.pinned (.plain (OpenSpec.ofChange whnfSumsSpec)) whnfSumsCard

/-- THE TIED CARD OF 'scholiumlaw13.WhnfStops'. -/
def whnfStopsCard : Claim7 := { stood := { row := whnfStopsRow, standIns := [], harness := (true, "f519a6a7a2ae009fa864965e10b5a3f2546646651e81732831f467976236c378"), looks := true }, kinds := [], alts := [], laidByText := true, laidKinds := [.data, .pinned], laidTests := true, laidLooks := .later }
def WhnfStopsCardSaid : Prop := Claim7.holds Tryz.pinned (.plain (OpenSpec.ofChange whnfStopsSpec)) whnfStopsCard

/-- THE TIED CARD OF 'scholiumlaw13.WhnfFuel'. -/
def whnfFuelCard : Claim7 := { stood := { row := whnfFuelRow, standIns := [], harness := (true, "f519a6a7a2ae009fa864965e10b5a3f2546646651e81732831f467976236c378"), looks := true }, kinds := [], alts := [], laidByText := true, laidKinds := [.data, .pinned], laidTests := true, laidLooks := .later }
def WhnfFuelCardSaid : Prop := Claim7.holds Tryz.pinned (.plain (OpenSpec.ofChange whnfFuelSpec)) whnfFuelCard

/-- THE TIED CARD OF 'scholiumlaw13.WhnfBetas'. -/
def whnfBetasCard : Claim7 := { stood := { row := whnfBetasRow, standIns := [], harness := (true, "f519a6a7a2ae009fa864965e10b5a3f2546646651e81732831f467976236c378"), looks := true }, kinds := [], alts := [], laidByText := true, laidKinds := [.data, .pinned], laidTests := true, laidLooks := .later }
def WhnfBetasCardSaid : Prop := Claim7.holds Tryz.pinned (.plain (OpenSpec.ofChange whnfBetasSpec)) whnfBetasCard

/-- THE TIED CARD OF 'scholiumlaw13.WhnfDeltas'. -/
def whnfDeltasCard : Claim7 := { stood := { row := whnfDeltasRow, standIns := [], harness := (true, "f519a6a7a2ae009fa864965e10b5a3f2546646651e81732831f467976236c378"), looks := true }, kinds := [], alts := [], laidByText := true, laidKinds := [.data, .pinned], laidTests := true, laidLooks := .later }
def WhnfDeltasCardSaid : Prop := Claim7.holds Tryz.pinned (.plain (OpenSpec.ofChange whnfDeltasSpec)) whnfDeltasCard

/-- THE SECOND FORM's CARD OF 'scholiumlaw22.VersCalls'. -/
def versCallsUptoCard : Claim7 := { stood := { row := versCallsUptoRow, standIns := [], harness := (true, "f519a6a7a2ae009fa864965e10b5a3f2546646651e81732831f467976236c378"), looks := true }, kinds := [], alts := [], laidByText := true, laidKinds := [.data, .pinned], laidTests := true, laidLooks := .later }
def VersCallsUptoCardSaid : Prop := Claim7.holds Tryz.pinned (.plain (OpenSpec.upto versCallsSpec)) versCallsUptoCard

/-- THE SECOND FORM's CARD OF 'scholiumlaw22.VersKeeps'. -/
def versKeepsUptoCard : Claim7 := { stood := { row := versKeepsUptoRow, standIns := [], harness := (true, "f519a6a7a2ae009fa864965e10b5a3f2546646651e81732831f467976236c378"), looks := true }, kinds := [], alts := [], laidByText := true, laidKinds := [.data, .pinned], laidTests := true, laidLooks := .later }
def VersKeepsUptoCardSaid : Prop := Claim7.holds Tryz.pinned (.plain (OpenSpec.upto versKeepsSpec)) versKeepsUptoCard

/-- THE SECOND FORM's CARD OF 'scholiumlaw22.VersNumbers'. -/
def versNumbersUptoCard : Claim7 := { stood := { row := versNumbersUptoRow, standIns := [], harness := (true, "f519a6a7a2ae009fa864965e10b5a3f2546646651e81732831f467976236c378"), looks := true }, kinds := [], alts := [], laidByText := true, laidKinds := [.data, .pinned], laidTests := true, laidLooks := .later }
def VersNumbersUptoCardSaid : Prop := Claim7.holds Tryz.pinned (.plain (OpenSpec.upto versNumbersSpec)) versNumbersUptoCard

/-- THE SECOND FORM's CARD OF 'scholiumlaw13.WhnfSums'. -/
def whnfSumsUptoCard : Claim7 := { stood := { row := whnfSumsUptoRow, standIns := [], harness := (true, "f519a6a7a2ae009fa864965e10b5a3f2546646651e81732831f467976236c378"), looks := true }, kinds := [], alts := [], laidByText := true, laidKinds := [.data, .pinned], laidTests := true, laidLooks := .later }
def WhnfSumsUptoCardSaid : Prop := Claim7.holds Tryz.pinned (.plain (OpenSpec.upto whnfSumsSpec)) whnfSumsUptoCard

/-- THE SECOND FORM's CARD OF 'scholiumlaw13.WhnfStops'. -/
def whnfStopsUptoCard : Claim7 := { stood := { row := whnfStopsUptoRow, standIns := [], harness := (true, "f519a6a7a2ae009fa864965e10b5a3f2546646651e81732831f467976236c378"), looks := true }, kinds := [], alts := [], laidByText := true, laidKinds := [.data, .pinned], laidTests := true, laidLooks := .later }
def WhnfStopsUptoCardSaid : Prop := Claim7.holds Tryz.pinned (.plain (OpenSpec.upto whnfStopsSpec)) whnfStopsUptoCard

/-- THE SECOND FORM's CARD OF 'scholiumlaw13.WhnfFuel'. -/
def whnfFuelUptoCard : Claim7 := { stood := { row := whnfFuelUptoRow, standIns := [], harness := (true, "f519a6a7a2ae009fa864965e10b5a3f2546646651e81732831f467976236c378"), looks := true }, kinds := [], alts := [], laidByText := true, laidKinds := [.data, .pinned], laidTests := true, laidLooks := .later }
def WhnfFuelUptoCardSaid : Prop := Claim7.holds Tryz.pinned (.plain (OpenSpec.upto whnfFuelSpec)) whnfFuelUptoCard

/-- THE SECOND FORM's CARD OF 'scholiumlaw13.WhnfBetas'. -/
def whnfBetasUptoCard : Claim7 := { stood := { row := whnfBetasUptoRow, standIns := [], harness := (true, "f519a6a7a2ae009fa864965e10b5a3f2546646651e81732831f467976236c378"), looks := true }, kinds := [], alts := [], laidByText := true, laidKinds := [.data, .pinned], laidTests := true, laidLooks := .later }
def WhnfBetasUptoCardSaid : Prop := Claim7.holds Tryz.pinned (.plain (OpenSpec.upto whnfBetasSpec)) whnfBetasUptoCard

/-- THE SECOND FORM's CARD OF 'scholiumlaw13.WhnfDeltas'. -/
def whnfDeltasUptoCard : Claim7 := { stood := { row := whnfDeltasUptoRow, standIns := [], harness := (true, "f519a6a7a2ae009fa864965e10b5a3f2546646651e81732831f467976236c378"), looks := true }, kinds := [], alts := [], laidByText := true, laidKinds := [.data, .pinned], laidTests := true, laidLooks := .later }
def WhnfDeltasUptoCardSaid : Prop := Claim7.holds Tryz.pinned (.plain (OpenSpec.upto whnfDeltasSpec)) whnfDeltasUptoCard
end Rows
end Go.Proofs.YtaldgcnhmnfocaaGreatDoor
