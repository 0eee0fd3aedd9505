/-
  DERIVED. GIVEN WITH THE SEED: THE CARDS: each row of YtnffnfkpicnhdaaGreatDoorRows.lean that lists a variable, with what it lists TIED to the program's text (the seventh form; the later family's looks); each row that meets fmt, with fmt's text TOLD by the authors' own Lean function (tested against real Go, not proved from fmt's source: count such statements apart). THE CARD IS WHAT COUNTS. Prove the row's statement (the work); the ties are given (YtnffnfkpicnhdaaGreatDoorTie.lean); close each card by the builder's one call (the guide's Derived/Test/ToyasCard.lean, 'card_holds'). Laid BY PROGRAM, IN A SANDBOX (cutbox-door.mjs). By AI agents, Wed Nov 11 2026. No macro, syntax, notation, axiom, sorry.
-/
import Derived.Test.YtnffnfkpicnhdaaGreatDoorRows
import GoSem.ClaimSeven
namespace Go.Proofs.YtnffnfkpicnhdaaGreatDoor
namespace Rows

/-- THE TIED CARD OF 'scholiumlaw22.VersCalls'. -/
def versCallsCard : Claim7 := { stood := { row := versCallsRow, standIns := [], harness := (true, "4dbec630f3dc1025e95db2f39fc2ca60767217bd0b2e6bd82d36691b3eaad43d"), looks := false }, kinds := [], alts := [], laidByText := true, laidKinds := [.data, .pinned], laidTests := true, laidLooks := .later }
def VersCallsCardSaid : Prop := Claim7.holds Tryz.pinned (.plain (OpenSpec.ofChange versCallsSpec)) versCallsCard

/-- THE TIED CARD OF 'scholiumlaw22.VersKeeps'. -/
def versKeepsCard : Claim7 := { stood := { row := versKeepsRow, standIns := [], harness := (true, "4dbec630f3dc1025e95db2f39fc2ca60767217bd0b2e6bd82d36691b3eaad43d"), looks := false }, kinds := [], alts := [], laidByText := true, laidKinds := [.data, .pinned], laidTests := true, laidLooks := .later }
def VersKeepsCardSaid : Prop := Claim7.holds Tryz.pinned (.plain (OpenSpec.ofChange versKeepsSpec)) versKeepsCard

/-- THE TIED CARD OF 'scholiumlaw22.VersNumbers'. -/
def versNumbersCard : Claim7 := { stood := { row := versNumbersRow, standIns := [], harness := (true, "4dbec630f3dc1025e95db2f39fc2ca60767217bd0b2e6bd82d36691b3eaad43d"), looks := false }, kinds := [], alts := [], laidByText := true, laidKinds := [.data, .pinned], laidTests := true, laidLooks := .later }
def VersNumbersCardSaid : Prop := Claim7.holds Tryz.pinned (.plain (OpenSpec.ofChange versNumbersSpec)) versNumbersCard

/-- THE TIED CARD OF 'scholiumlaw12.EnvParts'. -/
def envPartsCard : Claim7 := { stood := { row := envPartsRow, standIns := [], harness := (true, "4dbec630f3dc1025e95db2f39fc2ca60767217bd0b2e6bd82d36691b3eaad43d"), looks := false }, kinds := [], alts := [], laidByText := true, laidKinds := [.data, .pinned], laidTests := true, laidLooks := .later }
def EnvPartsCardSaid : Prop := Claim7.holds Tryz.pinned (.plain (OpenSpec.ofChange envPartsSpec)) envPartsCard

/-- THE TIED CARD OF 'scholiumlaw12.EnvKeeps'. -/
def envKeepsCard : Claim7 := { stood := { row := envKeepsRow, standIns := [], harness := (true, "4dbec630f3dc1025e95db2f39fc2ca60767217bd0b2e6bd82d36691b3eaad43d"), looks := false }, kinds := [], alts := [], laidByText := true, laidKinds := [.data, .pinned], laidTests := true, laidLooks := .later }
def EnvKeepsCardSaid : Prop := Claim7.holds Tryz.pinned (.plain (OpenSpec.ofChange envKeepsSpec)) envKeepsCard

/-- THE SECOND FORM's CARD OF 'scholiumlaw22.VersCalls'. -/
def versCallsUptoCard : Claim7 := { stood := { row := versCallsUptoRow, standIns := [], harness := (true, "4dbec630f3dc1025e95db2f39fc2ca60767217bd0b2e6bd82d36691b3eaad43d"), looks := false }, kinds := [], alts := [], laidByText := true, laidKinds := [.data, .pinned], laidTests := true, laidLooks := .later }
def VersCallsUptoCardSaid : Prop := Claim7.holds Tryz.pinned (.plain (OpenSpec.upto versCallsSpec)) versCallsUptoCard

/-- THE SECOND FORM's CARD OF 'scholiumlaw22.VersKeeps'. -/
def versKeepsUptoCard : Claim7 := { stood := { row := versKeepsUptoRow, standIns := [], harness := (true, "4dbec630f3dc1025e95db2f39fc2ca60767217bd0b2e6bd82d36691b3eaad43d"), looks := false }, kinds := [], alts := [], laidByText := true, laidKinds := [.data, .pinned], laidTests := true, laidLooks := .later }
def VersKeepsUptoCardSaid : Prop := Claim7.holds Tryz.pinned (.plain (OpenSpec.upto versKeepsSpec)) versKeepsUptoCard

/-- THE SECOND FORM's CARD OF 'scholiumlaw22.VersNumbers'. -/
def versNumbersUptoCard : Claim7 := { stood := { row := versNumbersUptoRow, standIns := [], harness := (true, "4dbec630f3dc1025e95db2f39fc2ca60767217bd0b2e6bd82d36691b3eaad43d"), looks := false }, kinds := [], alts := [], laidByText := true, laidKinds := [.data, .pinned], laidTests := true, laidLooks := .later }
def VersNumbersUptoCardSaid : Prop := Claim7.holds Tryz.pinned (.plain (OpenSpec.upto versNumbersSpec)) versNumbersUptoCard

/-- THE SECOND FORM's CARD OF 'scholiumlaw12.EnvParts'. -/
def envPartsUptoCard : Claim7 := { stood := { row := envPartsUptoRow, standIns := [], harness := (true, "4dbec630f3dc1025e95db2f39fc2ca60767217bd0b2e6bd82d36691b3eaad43d"), looks := false }, kinds := [], alts := [], laidByText := true, laidKinds := [.data, .pinned], laidTests := true, laidLooks := .later }
def EnvPartsUptoCardSaid : Prop := Claim7.holds Tryz.pinned (.plain (OpenSpec.upto envPartsSpec)) envPartsUptoCard

/-- THE SECOND FORM's CARD OF 'scholiumlaw12.EnvKeeps'. -/
def envKeepsUptoCard : Claim7 := { stood := { row := envKeepsUptoRow, standIns := [], harness := (true, "4dbec630f3dc1025e95db2f39fc2ca60767217bd0b2e6bd82d36691b3eaad43d"), looks := false }, kinds := [], alts := [], laidByText := true, laidKinds := [.data, .pinned], laidTests := true, laidLooks := .later }
def EnvKeepsUptoCardSaid : Prop := Claim7.holds Tryz.pinned (.plain (OpenSpec.upto envKeepsSpec)) envKeepsUptoCard
end Rows
end Go.Proofs.YtnffnfkpicnhdaaGreatDoor
