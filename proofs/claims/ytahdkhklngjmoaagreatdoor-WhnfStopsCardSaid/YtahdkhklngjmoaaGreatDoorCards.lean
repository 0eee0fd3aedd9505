/-
  DERIVED. GIVEN WITH THE SEED: THE CARDS: each row of YtahdkhklngjmoaaGreatDoorRows.lean that lists a variable, with what it lists TIED to the program's text (the seventh form; the later family's looks); each row that meets fmt, with fmt's text TOLD by the authors' own Lean function (tested against real Go, not proved from fmt's source: count such statements apart). THE CARD IS WHAT COUNTS. Prove the row's statement (the work); the ties are given (YtahdkhklngjmoaaGreatDoorTie.lean); close each card by the builder's one call (the guide's Derived/Test/ToyasCard.lean, 'card_holds'). Laid BY PROGRAM, IN A SANDBOX (cutbox-door.mjs). By AI agents, Wed Nov 11 2026. No macro, syntax, notation, axiom, sorry.
-/
import Derived.Test.YtahdkhklngjmoaaGreatDoorRows
import GoSem.ClaimSeven
namespace Go.Proofs.YtahdkhklngjmoaaGreatDoor
namespace Rows

/-- THE TIED CARD OF 'scholiumlaw13.WhnfSums'. -/
def whnfSumsCard : Claim7 := { stood := { row := whnfSumsRow, standIns := [], harness := (true, "bf1fca026ea9ac8ce062460466601e6bede95dda2d0af1cb976a06e3bff4b48c"), looks := true }, kinds := [], alts := [], laidByText := true, laidKinds := [.data, .pinned], laidTests := true, laidLooks := .later }
def WhnfSumsCardSaid : Prop := Claim7.holds Tryz.pinned (.plain (OpenSpec.ofChange whnfSumsSpec)) whnfSumsCard

/-- THE TIED CARD OF 'scholiumlaw13.WhnfStops'. -/
def whnfStopsCard : Claim7 := { stood := { row := whnfStopsRow, standIns := [], harness := (true, "bf1fca026ea9ac8ce062460466601e6bede95dda2d0af1cb976a06e3bff4b48c"), looks := true }, kinds := [], alts := [], laidByText := true, laidKinds := [.data, .pinned], laidTests := true, laidLooks := .later }
def WhnfStopsCardSaid : Prop := Claim7.holds Tryz.pinned (.plain (OpenSpec.ofChange whnfStopsSpec)) whnfStopsCard

/-- THE TIED CARD OF 'scholiumlaw13.WhnfFuel'. -/
def whnfFuelCard : Claim7 := { stood := { row := whnfFuelRow, standIns := [], harness := (true, "bf1fca026ea9ac8ce062460466601e6bede95dda2d0af1cb976a06e3bff4b48c"), looks := true }, kinds := [], alts := [], laidByText := true, laidKinds := [.data, .pinned], laidTests := true, laidLooks := .later }
def WhnfFuelCardSaid : Prop := Claim7.holds Tryz.pinned (.plain (OpenSpec.ofChange whnfFuelSpec)) whnfFuelCard

/-- THE TIED CARD OF 'scholiumlaw13.WhnfBetas'. -/
def whnfBetasCard : Claim7 := { stood := { row := whnfBetasRow, standIns := [], harness := (true, "bf1fca026ea9ac8ce062460466601e6bede95dda2d0af1cb976a06e3bff4b48c"), looks := true }, kinds := [], alts := [], laidByText := true, laidKinds := [.data, .pinned], laidTests := true, laidLooks := .later }
def WhnfBetasCardSaid : Prop := Claim7.holds Tryz.pinned (.plain (OpenSpec.ofChange whnfBetasSpec)) whnfBetasCard

/-- THE TIED CARD OF 'scholiumlaw13.WhnfDeltas'. -/
def whnfDeltasCard : Claim7 := { stood := { row := whnfDeltasRow, standIns := [], harness := (true, "bf1fca026ea9ac8ce062460466601e6bede95dda2d0af1cb976a06e3bff4b48c"), looks := true }, kinds := [], alts := [], laidByText := true, laidKinds := [.data, .pinned], laidTests := true, laidLooks := .later }
def WhnfDeltasCardSaid : Prop := Claim7.holds Tryz.pinned (.plain (OpenSpec.ofChange whnfDeltasSpec)) whnfDeltasCard

/-- THE SECOND FORM's CARD OF 'scholiumlaw13.WhnfSums'. -/
def whnfSumsUptoCard : Claim7 := { stood := { row := whnfSumsUptoRow, standIns := [], harness := (true, "bf1fca026ea9ac8ce062460466601e6bede95dda2d0af1cb976a06e3bff4b48c"), looks := true }, kinds := [], alts := [], laidByText := true, laidKinds := [.data, .pinned], laidTests := true, laidLooks := .later }
def WhnfSumsUptoCardSaid : Prop := Claim7.holds Tryz.pinned (.plain (OpenSpec.upto whnfSumsSpec)) whnfSumsUptoCard

/-- THE SECOND FORM's CARD OF 'scholiumlaw13.WhnfStops'. -/
def whnfStopsUptoCard : Claim7 := { stood := { row := whnfStopsUptoRow, standIns := [], harness := (true, "bf1fca026ea9ac8ce062460466601e6bede95dda2d0af1cb976a06e3bff4b48c"), looks := true }, kinds := [], alts := [], laidByText := true, laidKinds := [.data, .pinned], laidTests := true, laidLooks := .later }
def WhnfStopsUptoCardSaid : Prop := Claim7.holds Tryz.pinned (.plain (OpenSpec.upto whnfStopsSpec)) whnfStopsUptoCard

/-- THE SECOND FORM's CARD OF 'scholiumlaw13.WhnfFuel'. -/
def whnfFuelUptoCard : Claim7 := { stood := { row := whnfFuelUptoRow, standIns := [], harness := (true, "bf1fca026ea9ac8ce062460466601e6bede95dda2d0af1cb976a06e3bff4b48c"), looks := true }, kinds := [], alts := [], laidByText := true, laidKinds := [.data, .pinned], laidTests := true, laidLooks := .later }
def WhnfFuelUptoCardSaid : Prop := Claim7.holds Tryz.pinned (.plain (OpenSpec.upto whnfFuelSpec)) whnfFuelUptoCard

/-- THE SECOND FORM's CARD OF 'scholiumlaw13.WhnfBetas'. -/
def whnfBetasUptoCard : Claim7 := { stood := { row := whnfBetasUptoRow, standIns := [], harness := (true, "bf1fca026ea9ac8ce062460466601e6bede95dda2d0af1cb976a06e3bff4b48c"), looks := true }, kinds := [], alts := [], laidByText := true, laidKinds := [.data, .pinned], laidTests := true, laidLooks := .later }
def WhnfBetasUptoCardSaid : Prop := Claim7.holds Tryz.pinned (.plain (OpenSpec.upto whnfBetasSpec)) whnfBetasUptoCard

/-- THE SECOND FORM's CARD OF 'scholiumlaw13.WhnfDeltas'. -/
def whnfDeltasUptoCard : Claim7 := { stood := { row := whnfDeltasUptoRow, standIns := [], harness := (true, "bf1fca026ea9ac8ce062460466601e6bede95dda2d0af1cb976a06e3bff4b48c"), looks := true }, kinds := [], alts := [], laidByText := true, laidKinds := [.data, .pinned], laidTests := true, laidLooks := .later }
def WhnfDeltasUptoCardSaid : Prop := Claim7.holds Tryz.pinned (.plain (OpenSpec.upto whnfDeltasSpec)) whnfDeltasUptoCard
end Rows
end Go.Proofs.YtahdkhklngjmoaaGreatDoor
