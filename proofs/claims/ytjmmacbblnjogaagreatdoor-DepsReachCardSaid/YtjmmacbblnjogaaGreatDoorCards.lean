/-
  DERIVED. GIVEN WITH THE SEED: THE CARDS: each row of YtjmmacbblnjogaaGreatDoorRows.lean that lists a variable, with what it lists TIED to the program's text (the seventh form; the later family's looks); each row that meets fmt, with fmt's text TOLD by the authors' own Lean function (tested against real Go, not proved from fmt's source: count such statements apart). THE CARD IS WHAT COUNTS. Prove the row's statement (the work); the ties are given (YtjmmacbblnjogaaGreatDoorTie.lean); close each card by the builder's one call (the guide's Derived/Test/ToyasCard.lean, 'card_holds'). Laid BY PROGRAM, IN A SANDBOX (cutbox-door.mjs). By AI agents, Wed Nov 11 2026. No macro, syntax, notation, axiom, sorry.
-/
import Derived.Test.YtjmmacbblnjogaaGreatDoorRows
import GoSem.ClaimSeven
namespace Go.Proofs.YtjmmacbblnjogaaGreatDoor
namespace Rows

/-- THE TIED CARD OF 'scholiumlaw06.BindBack'. -/
def bindBackCard : Claim7 := { stood := { row := bindBackRow, standIns := [], harness := (true, "e761ef015989fec7788136943a484a7435ea26fb4c4384a8601b9dd9253463f6"), looks := false }, kinds := [], alts := [], laidByText := true, laidKinds := [.data, .pinned], laidTests := true, laidLooks := .later }
def BindBackCardSaid : Prop := Claim7.holds Tryz.pinned (.plain (OpenSpec.ofChange bindBackSpec)) bindBackCard

/-- THE TIED CARD OF 'scholiumlaw06.BindSteps'. -/
def bindStepsCard : Claim7 := { stood := { row := bindStepsRow, standIns := [], harness := (true, "e761ef015989fec7788136943a484a7435ea26fb4c4384a8601b9dd9253463f6"), looks := false }, kinds := [], alts := [], laidByText := true, laidKinds := [.data, .pinned], laidTests := true, laidLooks := .later }
def BindStepsCardSaid : Prop := Claim7.holds Tryz.pinned (.plain (OpenSpec.ofChange bindStepsSpec)) bindStepsCard

/-- THE TIED CARD OF 'scholiumlaw06.BindNames'. -/
def bindNamesCard : Claim7 := { stood := { row := bindNamesRow, standIns := [], harness := (true, "e761ef015989fec7788136943a484a7435ea26fb4c4384a8601b9dd9253463f6"), looks := false }, kinds := [], alts := [], laidByText := true, laidKinds := [.data, .pinned], laidTests := true, laidLooks := .later }
def BindNamesCardSaid : Prop := Claim7.holds Tryz.pinned (.plain (OpenSpec.ofChange bindNamesSpec)) bindNamesCard

/-- THE TIED CARD OF 'scholiumlaw06.BindUses'. -/
def bindUsesCard : Claim7 := { stood := { row := bindUsesRow, standIns := [], harness := (true, "e761ef015989fec7788136943a484a7435ea26fb4c4384a8601b9dd9253463f6"), looks := false }, kinds := [], alts := [], laidByText := true, laidKinds := [.data, .pinned], laidTests := true, laidLooks := .later }
def BindUsesCardSaid : Prop := Claim7.holds Tryz.pinned (.plain (OpenSpec.ofChange bindUsesSpec)) bindUsesCard

/-- THE TIED CARD OF 'scholiumlaw06.BindOccurs'. -/
def bindOccursCard : Claim7 := { stood := { row := bindOccursRow, standIns := [], harness := (true, "e761ef015989fec7788136943a484a7435ea26fb4c4384a8601b9dd9253463f6"), looks := false }, kinds := [], alts := [], laidByText := true, laidKinds := [.data, .pinned], laidTests := true, laidLooks := .later }
def BindOccursCardSaid : Prop := Claim7.holds Tryz.pinned (.plain (OpenSpec.ofChange bindOccursSpec)) bindOccursCard

/-- THE TIED CARD OF 'scholiumlaw09.DepsFirst'. -/
def depsFirstCard : Claim7 := { stood := { row := depsFirstRow, standIns := [], harness := (true, "e761ef015989fec7788136943a484a7435ea26fb4c4384a8601b9dd9253463f6"), looks := false }, kinds := [], alts := [], laidByText := true, laidKinds := [.data, .pinned], laidTests := true, laidLooks := .later }
def DepsFirstCardSaid : Prop := Claim7.holds Tryz.pinned (.plain (OpenSpec.ofChange depsFirstSpec)) depsFirstCard

/-- THE TIED CARD OF 'scholiumlaw09.DepsReach'. -/
def depsReachCard : Claim7 := { stood := { row := depsReachRow, standIns := [], harness := (true, "e761ef015989fec7788136943a484a7435ea26fb4c4384a8601b9dd9253463f6"), looks := false }, kinds := [], alts := [], laidByText := true, laidKinds := [.data, .pinned], laidTests := true, laidLooks := .later }
def DepsReachCardSaid : Prop := Claim7.holds Tryz.pinned (.plain (OpenSpec.ofChange depsReachSpec)) depsReachCard

/-- THE TIED CARD OF 'scholiumlaw09.DepsNeeds'. -/
def depsNeedsCard : Claim7 := { stood := { row := depsNeedsRow, standIns := [], harness := (true, "e761ef015989fec7788136943a484a7435ea26fb4c4384a8601b9dd9253463f6"), looks := false }, kinds := [], alts := [], laidByText := true, laidKinds := [.data, .pinned], laidTests := true, laidLooks := .later }
def DepsNeedsCardSaid : Prop := Claim7.holds Tryz.pinned (.plain (OpenSpec.ofChange depsNeedsSpec)) depsNeedsCard

/-- THE SECOND FORM's CARD OF 'scholiumlaw06.BindBack'. -/
def bindBackUptoCard : Claim7 := { stood := { row := bindBackUptoRow, standIns := [], harness := (true, "e761ef015989fec7788136943a484a7435ea26fb4c4384a8601b9dd9253463f6"), looks := false }, kinds := [], alts := [], laidByText := true, laidKinds := [.data, .pinned], laidTests := true, laidLooks := .later }
def BindBackUptoCardSaid : Prop := Claim7.holds Tryz.pinned (.plain (OpenSpec.upto bindBackSpec)) bindBackUptoCard

/-- THE SECOND FORM's CARD OF 'scholiumlaw06.BindSteps'. -/
def bindStepsUptoCard : Claim7 := { stood := { row := bindStepsUptoRow, standIns := [], harness := (true, "e761ef015989fec7788136943a484a7435ea26fb4c4384a8601b9dd9253463f6"), looks := false }, kinds := [], alts := [], laidByText := true, laidKinds := [.data, .pinned], laidTests := true, laidLooks := .later }
def BindStepsUptoCardSaid : Prop := Claim7.holds Tryz.pinned (.plain (OpenSpec.upto bindStepsSpec)) bindStepsUptoCard

/-- THE SECOND FORM's CARD OF 'scholiumlaw06.BindNames'. -/
def bindNamesUptoCard : Claim7 := { stood := { row := bindNamesUptoRow, standIns := [], harness := (true, "e761ef015989fec7788136943a484a7435ea26fb4c4384a8601b9dd9253463f6"), looks := false }, kinds := [], alts := [], laidByText := true, laidKinds := [.data, .pinned], laidTests := true, laidLooks := .later }
def BindNamesUptoCardSaid : Prop := Claim7.holds Tryz.pinned (.plain (OpenSpec.upto bindNamesSpec)) bindNamesUptoCard

/-- THE SECOND FORM's CARD OF 'scholiumlaw06.BindUses'. -/
def bindUsesUptoCard : Claim7 := { stood := { row := bindUsesUptoRow, standIns := [], harness := (true, "e761ef015989fec7788136943a484a7435ea26fb4c4384a8601b9dd9253463f6"), looks := false }, kinds := [], alts := [], laidByText := true, laidKinds := [.data, .pinned], laidTests := true, laidLooks := .later }
def BindUsesUptoCardSaid : Prop := Claim7.holds Tryz.pinned (.plain (OpenSpec.upto bindUsesSpec)) bindUsesUptoCard

/-- THE SECOND FORM's CARD OF 'scholiumlaw06.BindOccurs'. -/
def bindOccursUptoCard : Claim7 := { stood := { row := bindOccursUptoRow, standIns := [], harness := (true, "e761ef015989fec7788136943a484a7435ea26fb4c4384a8601b9dd9253463f6"), looks := false }, kinds := [], alts := [], laidByText := true, laidKinds := [.data, .pinned], laidTests := true, laidLooks := .later }
def BindOccursUptoCardSaid : Prop := Claim7.holds Tryz.pinned (.plain (OpenSpec.upto bindOccursSpec)) bindOccursUptoCard

/-- THE SECOND FORM's CARD OF 'scholiumlaw09.DepsFirst'. -/
def depsFirstUptoCard : Claim7 := { stood := { row := depsFirstUptoRow, standIns := [], harness := (true, "e761ef015989fec7788136943a484a7435ea26fb4c4384a8601b9dd9253463f6"), looks := false }, kinds := [], alts := [], laidByText := true, laidKinds := [.data, .pinned], laidTests := true, laidLooks := .later }
def DepsFirstUptoCardSaid : Prop := Claim7.holds Tryz.pinned (.plain (OpenSpec.upto depsFirstSpec)) depsFirstUptoCard

/-- THE SECOND FORM's CARD OF 'scholiumlaw09.DepsReach'. -/
def depsReachUptoCard : Claim7 := { stood := { row := depsReachUptoRow, standIns := [], harness := (true, "e761ef015989fec7788136943a484a7435ea26fb4c4384a8601b9dd9253463f6"), looks := false }, kinds := [], alts := [], laidByText := true, laidKinds := [.data, .pinned], laidTests := true, laidLooks := .later }
def DepsReachUptoCardSaid : Prop := Claim7.holds Tryz.pinned (.plain (OpenSpec.upto depsReachSpec)) depsReachUptoCard

/-- THE SECOND FORM's CARD OF 'scholiumlaw09.DepsNeeds'. -/
def depsNeedsUptoCard : Claim7 := { stood := { row := depsNeedsUptoRow, standIns := [], harness := (true, "e761ef015989fec7788136943a484a7435ea26fb4c4384a8601b9dd9253463f6"), looks := false }, kinds := [], alts := [], laidByText := true, laidKinds := [.data, .pinned], laidTests := true, laidLooks := .later }
def DepsNeedsUptoCardSaid : Prop := Claim7.holds Tryz.pinned (.plain (OpenSpec.upto depsNeedsSpec)) depsNeedsUptoCard
end Rows
end Go.Proofs.YtjmmacbblnjogaaGreatDoor
