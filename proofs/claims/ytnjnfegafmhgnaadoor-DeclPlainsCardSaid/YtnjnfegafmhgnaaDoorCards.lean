/-
  DERIVED. GIVEN WITH THE SEED: THE CARDS: each row of YtnjnfegafmhgnaaDoorRows.lean that lists a variable, with what it lists TIED to the program's text (the seventh form; the later family's looks); each row that meets fmt, with fmt's text TOLD by the authors' own Lean function (tested against real Go, not proved from fmt's source: count such statements apart). THE CARD IS WHAT COUNTS. Prove the row's statement (the work); the ties are given (YtnjnfegafmhgnaaDoorTie.lean); close each card by the builder's one call (the guide's Derived/Test/ToyasCard.lean, 'card_holds'). Laid BY PROGRAM, IN A SANDBOX (cutbox-door.mjs). By AI agents, Wed Nov 11 2026. No macro, syntax, notation, axiom, sorry.
-/
import Derived.Test.YtnjnfegafmhgnaaDoorRows
import GoSem.ClaimSeven
namespace Go.Proofs.YtnjnfegafmhgnaaDoor
namespace Rows

/-- THE TIED CARD OF 'scholiumlaw11.DeclPlains'. -/
def declPlainsCard : Claim7 := { stood := { row := declPlainsRow, standIns := [], harness := (true, "3653543b5f99926a05f80adad39bc1d79ab8f06a9827f874e9b52889c656b215"), looks := false }, kinds := [], alts := [], laidByText := true, laidKinds := [.data, .pinned], laidTests := true, laidLooks := .later }
def DeclPlainsCardSaid : Prop := Claim7.holds Tryd.pinned (.plain (OpenSpec.ofChange declPlainsSpec)) declPlainsCard

/-- THE TIED CARD OF 'scholiumlaw11.DeclKinds'. -/
def declKindsCard : Claim7 := { stood := { row := declKindsRow, standIns := [], harness := (true, "3653543b5f99926a05f80adad39bc1d79ab8f06a9827f874e9b52889c656b215"), looks := false }, kinds := [], alts := [], laidByText := true, laidKinds := [.data, .pinned], laidTests := true, laidLooks := .later }
def DeclKindsCardSaid : Prop := Claim7.holds Tryd.pinned (.plain (OpenSpec.ofChange declKindsSpec)) declKindsCard

/-- THE TIED CARD OF 'scholiumlaw08.PackBack'. -/
def packBackCard : Claim7 := { stood := { row := packBackRow, standIns := [], harness := (true, "3653543b5f99926a05f80adad39bc1d79ab8f06a9827f874e9b52889c656b215"), looks := false }, kinds := [], alts := [], laidByText := true, laidKinds := [.data, .pinned], laidTests := true, laidLooks := .later }
def PackBackCardSaid : Prop := Claim7.holds Tryd.pinned (.plain (OpenSpec.ofChange packBackSpec)) packBackCard

/-- THE TIED CARD OF 'scholiumlaw08.PackHashes'. -/
def packHashesCard : Claim7 := { stood := { row := packHashesRow, standIns := [], harness := (true, "3653543b5f99926a05f80adad39bc1d79ab8f06a9827f874e9b52889c656b215"), looks := false }, kinds := [], alts := [], laidByText := true, laidKinds := [.data, .pinned], laidTests := true, laidLooks := .later }
def PackHashesCardSaid : Prop := Claim7.holds Tryd.pinned (.plain (OpenSpec.ofChange packHashesSpec)) packHashesCard

/-- THE TIED CARD OF 'scholiumlaw08.PackTerms'. -/
def packTermsCard : Claim7 := { stood := { row := packTermsRow, standIns := [], harness := (true, "3653543b5f99926a05f80adad39bc1d79ab8f06a9827f874e9b52889c656b215"), looks := false }, kinds := [], alts := [], laidByText := true, laidKinds := [.data, .pinned], laidTests := true, laidLooks := .later }
def PackTermsCardSaid : Prop := Claim7.holds Tryd.pinned (.plain (OpenSpec.ofChange packTermsSpec)) packTermsCard

/-- THE SECOND FORM's CARD OF 'scholiumlaw11.DeclPlains'. -/
def declPlainsUptoCard : Claim7 := { stood := { row := declPlainsUptoRow, standIns := [], harness := (true, "3653543b5f99926a05f80adad39bc1d79ab8f06a9827f874e9b52889c656b215"), looks := false }, kinds := [], alts := [], laidByText := true, laidKinds := [.data, .pinned], laidTests := true, laidLooks := .later }
def DeclPlainsUptoCardSaid : Prop := Claim7.holds Tryd.pinned (.plain (OpenSpec.upto declPlainsSpec)) declPlainsUptoCard

/-- THE SECOND FORM's CARD OF 'scholiumlaw11.DeclKinds'. -/
def declKindsUptoCard : Claim7 := { stood := { row := declKindsUptoRow, standIns := [], harness := (true, "3653543b5f99926a05f80adad39bc1d79ab8f06a9827f874e9b52889c656b215"), looks := false }, kinds := [], alts := [], laidByText := true, laidKinds := [.data, .pinned], laidTests := true, laidLooks := .later }
def DeclKindsUptoCardSaid : Prop := Claim7.holds Tryd.pinned (.plain (OpenSpec.upto declKindsSpec)) declKindsUptoCard

/-- THE SECOND FORM's CARD OF 'scholiumlaw08.PackBack'. -/
def packBackUptoCard : Claim7 := { stood := { row := packBackUptoRow, standIns := [], harness := (true, "3653543b5f99926a05f80adad39bc1d79ab8f06a9827f874e9b52889c656b215"), looks := false }, kinds := [], alts := [], laidByText := true, laidKinds := [.data, .pinned], laidTests := true, laidLooks := .later }
def PackBackUptoCardSaid : Prop := Claim7.holds Tryd.pinned (.plain (OpenSpec.upto packBackSpec)) packBackUptoCard

/-- THE SECOND FORM's CARD OF 'scholiumlaw08.PackHashes'. -/
def packHashesUptoCard : Claim7 := { stood := { row := packHashesUptoRow, standIns := [], harness := (true, "3653543b5f99926a05f80adad39bc1d79ab8f06a9827f874e9b52889c656b215"), looks := false }, kinds := [], alts := [], laidByText := true, laidKinds := [.data, .pinned], laidTests := true, laidLooks := .later }
def PackHashesUptoCardSaid : Prop := Claim7.holds Tryd.pinned (.plain (OpenSpec.upto packHashesSpec)) packHashesUptoCard

/-- THE SECOND FORM's CARD OF 'scholiumlaw08.PackTerms'. -/
def packTermsUptoCard : Claim7 := { stood := { row := packTermsUptoRow, standIns := [], harness := (true, "3653543b5f99926a05f80adad39bc1d79ab8f06a9827f874e9b52889c656b215"), looks := false }, kinds := [], alts := [], laidByText := true, laidKinds := [.data, .pinned], laidTests := true, laidLooks := .later }
def PackTermsUptoCardSaid : Prop := Claim7.holds Tryd.pinned (.plain (OpenSpec.upto packTermsSpec)) packTermsUptoCard
end Rows
end Go.Proofs.YtnjnfegafmhgnaaDoor
