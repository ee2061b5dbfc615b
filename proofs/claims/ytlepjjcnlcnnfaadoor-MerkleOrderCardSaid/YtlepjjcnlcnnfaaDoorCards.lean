/-
  DERIVED. GIVEN WITH THE SEED: THE CARDS: each row of YtlepjjcnlcnnfaaDoorRows.lean that lists a variable, with what it lists TIED to the program's text (the seventh form; the later family's looks); each row that meets fmt, with fmt's text TOLD by the authors' own Lean function (tested against real Go, not proved from fmt's source: count such statements apart). THE CARD IS WHAT COUNTS. Prove the row's statement (the work); the ties are given (YtlepjjcnlcnnfaaDoorTie.lean); close each card by the builder's one call (the guide's Derived/Test/ToyasCard.lean, 'card_holds'). Laid BY PROGRAM, IN A SANDBOX (cutbox-door.mjs). By AI agents, Wed Nov 11 2026. No macro, syntax, notation, axiom, sorry.
-/
import Derived.Test.YtlepjjcnlcnnfaaDoorRows
import GoSem.ClaimSeven
namespace Go.Proofs.YtlepjjcnlcnnfaaDoor
namespace Rows

/-- THE TIED CARD OF 'cohortlaw06.MerkleAgain'. -/
def merkleAgainCard : Claim7 := { stood := { row := merkleAgainRow, standIns := [], harness := (true, "050a97b681bfc4a7739544b500725f017a4c16113139433d601409d408ac4c1e"), looks := true }, kinds := [], alts := [], laidByText := true, laidKinds := [.handle], laidTests := true, laidLooks := .later }
def MerkleAgainCardSaid : Prop := Claim7.holds Tryd.pinned (.plain (OpenSpec.ofChange merkleAgainSpec)) merkleAgainCard

/-- THE TIED CARD OF 'cohortlaw06.MerkleOrder'. -/
def merkleOrderCard : Claim7 := { stood := { row := merkleOrderRow, standIns := [], harness := (true, "050a97b681bfc4a7739544b500725f017a4c16113139433d601409d408ac4c1e"), looks := true }, kinds := [], alts := [], laidByText := true, laidKinds := [.handle], laidTests := true, laidLooks := .later }
def MerkleOrderCardSaid : Prop := Claim7.holds Tryd.pinned (.plain (OpenSpec.ofChange merkleOrderSpec)) merkleOrderCard

/-- THE SECOND FORM's CARD OF 'cohortlaw06.MerkleAgain'. -/
def merkleAgainUptoCard : Claim7 := { stood := { row := merkleAgainUptoRow, standIns := [], harness := (true, "050a97b681bfc4a7739544b500725f017a4c16113139433d601409d408ac4c1e"), looks := true }, kinds := [], alts := [], laidByText := true, laidKinds := [.handle], laidTests := true, laidLooks := .later }
def MerkleAgainUptoCardSaid : Prop := Claim7.holds Tryd.pinned (.plain (OpenSpec.upto merkleAgainSpec)) merkleAgainUptoCard

/-- THE SECOND FORM's CARD OF 'cohortlaw06.MerkleOrder'. -/
def merkleOrderUptoCard : Claim7 := { stood := { row := merkleOrderUptoRow, standIns := [], harness := (true, "050a97b681bfc4a7739544b500725f017a4c16113139433d601409d408ac4c1e"), looks := true }, kinds := [], alts := [], laidByText := true, laidKinds := [.handle], laidTests := true, laidLooks := .later }
def MerkleOrderUptoCardSaid : Prop := Claim7.holds Tryd.pinned (.plain (OpenSpec.upto merkleOrderSpec)) merkleOrderUptoCard
end Rows
end Go.Proofs.YtlepjjcnlcnnfaaDoor
