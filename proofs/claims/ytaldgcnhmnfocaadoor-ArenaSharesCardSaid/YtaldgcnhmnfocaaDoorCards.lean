/-
  DERIVED. GIVEN WITH THE SEED: THE CARDS: each row of YtaldgcnhmnfocaaDoorRows.lean that lists a variable, with what it lists TIED to the program's text (the seventh form; the later family's looks); each row that meets fmt, with fmt's text TOLD by the authors' own Lean function (tested against real Go, not proved from fmt's source: count such statements apart). THE CARD IS WHAT COUNTS. Prove the row's statement (the work); the ties are given (YtaldgcnhmnfocaaDoorTie.lean); close each card by the builder's one call (the guide's Derived/Test/ToyasCard.lean, 'card_holds'). Laid BY PROGRAM, IN A SANDBOX (cutbox-door.mjs). By AI agents, Wed Nov 11 2026. No macro, syntax, notation, axiom, sorry.
-/
import Derived.Test.YtaldgcnhmnfocaaDoorRows
import GoSem.ClaimSeven
namespace Go.Proofs.YtaldgcnhmnfocaaDoor
namespace Rows

/-- THE TIED CARD OF 'scholiumlaw05.ArenaParts'. -/
def arenaPartsCard : Claim7 := { stood := { row := arenaPartsRow, standIns := [], harness := (true, "476db7682a61688c2e36af2a9dfd02b66e370f17cb77b03a1369ce4c2460bc76"), looks := false }, kinds := [], alts := [], laidByText := true, laidKinds := [.data, .data, .data, .data, .pinned], laidTests := true, laidLooks := .later }
def ArenaPartsCardSaid : Prop := Claim7.holds Tryd.pinned (.plain (OpenSpec.ofChange arenaPartsSpec)) arenaPartsCard

/-- THE TIED CARD OF 'scholiumlaw05.ArenaShares'. -/
def arenaSharesCard : Claim7 := { stood := { row := arenaSharesRow, standIns := [], harness := (true, "476db7682a61688c2e36af2a9dfd02b66e370f17cb77b03a1369ce4c2460bc76"), looks := false }, kinds := [], alts := [], laidByText := true, laidKinds := [.data, .data, .data, .data, .pinned], laidTests := true, laidLooks := .later }
def ArenaSharesCardSaid : Prop := Claim7.holds Tryd.pinned (.plain (OpenSpec.ofChange arenaSharesSpec)) arenaSharesCard

/-- THE SECOND FORM's CARD OF 'scholiumlaw05.ArenaParts'. -/
def arenaPartsUptoCard : Claim7 := { stood := { row := arenaPartsUptoRow, standIns := [], harness := (true, "476db7682a61688c2e36af2a9dfd02b66e370f17cb77b03a1369ce4c2460bc76"), looks := false }, kinds := [], alts := [], laidByText := true, laidKinds := [.data, .data, .data, .data, .pinned], laidTests := true, laidLooks := .later }
def ArenaPartsUptoCardSaid : Prop := Claim7.holds Tryd.pinned (.plain (OpenSpec.upto arenaPartsSpec)) arenaPartsUptoCard

/-- THE SECOND FORM's CARD OF 'scholiumlaw05.ArenaShares'. -/
def arenaSharesUptoCard : Claim7 := { stood := { row := arenaSharesUptoRow, standIns := [], harness := (true, "476db7682a61688c2e36af2a9dfd02b66e370f17cb77b03a1369ce4c2460bc76"), looks := false }, kinds := [], alts := [], laidByText := true, laidKinds := [.data, .data, .data, .data, .pinned], laidTests := true, laidLooks := .later }
def ArenaSharesUptoCardSaid : Prop := Claim7.holds Tryd.pinned (.plain (OpenSpec.upto arenaSharesSpec)) arenaSharesUptoCard
end Rows
end Go.Proofs.YtaldgcnhmnfocaaDoor
