/-
  DERIVED. GIVEN WITH THE SEED: THE CARDS: each row of YtaifmfnmgnmgbaaGreatDoorRows.lean that lists a variable, with what it lists TIED to the program's text (the seventh form; the later family's looks); each row that meets fmt, with fmt's text TOLD by the authors' own Lean function (tested against real Go, not proved from fmt's source: count such statements apart). THE CARD IS WHAT COUNTS. Prove the row's statement (the work); the ties are given (YtaifmfnmgnmgbaaGreatDoorTie.lean); close each card by the builder's one call (the guide's Derived/Test/ToyasCard.lean, 'card_holds'). Laid BY PROGRAM, IN A SANDBOX (cutbox-door.mjs). By AI agents, Wed Nov 11 2026. No macro, syntax, notation, axiom, sorry.
-/
import Derived.Test.YtaifmfnmgnmgbaaGreatDoorRows
import GoSem.ClaimSeven
namespace Go.Proofs.YtaifmfnmgnmgbaaGreatDoor
namespace Rows

/-- THE TIED CARD OF 'cohortlaw10.TxnBack'. -/
def txnBackCard : Claim7 := { stood := { row := txnBackRow, standIns := [], harness := (true, "a4fbb8e99d3ff40c4a54d1d4044309768e44aed23a8eebe98832a02b87a721d3"), looks := true }, kinds := [], alts := [], laidByText := true, laidKinds := [.handle], laidTests := true, laidLooks := .later }
def TxnBackCardSaid : Prop := Claim7.holds Tryz.pinned (.plain (OpenSpec.ofChange txnBackSpec)) txnBackCard

/-- THE TIED CARD OF 'cohortlaw10.TxnWrites'. -/
def txnWritesCard : Claim7 := { stood := { row := txnWritesRow, standIns := [], harness := (true, "a4fbb8e99d3ff40c4a54d1d4044309768e44aed23a8eebe98832a02b87a721d3"), looks := true }, kinds := [], alts := [], laidByText := true, laidKinds := [.handle], laidTests := true, laidLooks := .later }
def TxnWritesCardSaid : Prop := Claim7.holds Tryz.pinned (.plain (OpenSpec.ofChange txnWritesSpec)) txnWritesCard

/-- THE TIED CARD OF 'cohortlaw10.TxnFits'. -/
def txnFitsCard : Claim7 := { stood := { row := txnFitsRow, standIns := [], harness := (true, "a4fbb8e99d3ff40c4a54d1d4044309768e44aed23a8eebe98832a02b87a721d3"), looks := true }, kinds := [], alts := [], laidByText := true, laidKinds := [.handle], laidTests := true, laidLooks := .later }
def TxnFitsCardSaid : Prop := Claim7.holds Tryz.pinned (.plain (OpenSpec.ofChange txnFitsSpec)) txnFitsCard

/-- THE TIED CARD OF 'cohortlaw10.TxnApart'. -/
def txnApartCard : Claim7 := { stood := { row := txnApartRow, standIns := [], harness := (true, "a4fbb8e99d3ff40c4a54d1d4044309768e44aed23a8eebe98832a02b87a721d3"), looks := true }, kinds := [], alts := [], laidByText := true, laidKinds := [.handle], laidTests := true, laidLooks := .later }
def TxnApartCardSaid : Prop := Claim7.holds Tryz.pinned (.plain (OpenSpec.ofChange txnApartSpec)) txnApartCard

/-- THE TIED CARD OF 'cohortlaw10.TxnKeys'. -/
def txnKeysCard : Claim7 := { stood := { row := txnKeysRow, standIns := [], harness := (true, "a4fbb8e99d3ff40c4a54d1d4044309768e44aed23a8eebe98832a02b87a721d3"), looks := true }, kinds := [], alts := [], laidByText := true, laidKinds := [.handle], laidTests := true, laidLooks := .later }
def TxnKeysCardSaid : Prop := Claim7.holds Tryz.pinned (.plain (OpenSpec.ofChange txnKeysSpec)) txnKeysCard

/-- THE SECOND FORM's CARD OF 'cohortlaw10.TxnBack'. -/
def txnBackUptoCard : Claim7 := { stood := { row := txnBackUptoRow, standIns := [], harness := (true, "a4fbb8e99d3ff40c4a54d1d4044309768e44aed23a8eebe98832a02b87a721d3"), looks := true }, kinds := [], alts := [], laidByText := true, laidKinds := [.handle], laidTests := true, laidLooks := .later }
def TxnBackUptoCardSaid : Prop := Claim7.holds Tryz.pinned (.plain (OpenSpec.upto txnBackSpec)) txnBackUptoCard

/-- THE SECOND FORM's CARD OF 'cohortlaw10.TxnWrites'. -/
def txnWritesUptoCard : Claim7 := { stood := { row := txnWritesUptoRow, standIns := [], harness := (true, "a4fbb8e99d3ff40c4a54d1d4044309768e44aed23a8eebe98832a02b87a721d3"), looks := true }, kinds := [], alts := [], laidByText := true, laidKinds := [.handle], laidTests := true, laidLooks := .later }
def TxnWritesUptoCardSaid : Prop := Claim7.holds Tryz.pinned (.plain (OpenSpec.upto txnWritesSpec)) txnWritesUptoCard

/-- THE SECOND FORM's CARD OF 'cohortlaw10.TxnFits'. -/
def txnFitsUptoCard : Claim7 := { stood := { row := txnFitsUptoRow, standIns := [], harness := (true, "a4fbb8e99d3ff40c4a54d1d4044309768e44aed23a8eebe98832a02b87a721d3"), looks := true }, kinds := [], alts := [], laidByText := true, laidKinds := [.handle], laidTests := true, laidLooks := .later }
def TxnFitsUptoCardSaid : Prop := Claim7.holds Tryz.pinned (.plain (OpenSpec.upto txnFitsSpec)) txnFitsUptoCard

/-- THE SECOND FORM's CARD OF 'cohortlaw10.TxnApart'. -/
def txnApartUptoCard : Claim7 := { stood := { row := txnApartUptoRow, standIns := [], harness := (true, "a4fbb8e99d3ff40c4a54d1d4044309768e44aed23a8eebe98832a02b87a721d3"), looks := true }, kinds := [], alts := [], laidByText := true, laidKinds := [.handle], laidTests := true, laidLooks := .later }
def TxnApartUptoCardSaid : Prop := Claim7.holds Tryz.pinned (.plain (OpenSpec.upto txnApartSpec)) txnApartUptoCard

/-- THE SECOND FORM's CARD OF 'cohortlaw10.TxnKeys'. -/
def txnKeysUptoCard : Claim7 := { stood := { row := txnKeysUptoRow, standIns := [], harness := (true, "a4fbb8e99d3ff40c4a54d1d4044309768e44aed23a8eebe98832a02b87a721d3"), looks := true }, kinds := [], alts := [], laidByText := true, laidKinds := [.handle], laidTests := true, laidLooks := .later }
def TxnKeysUptoCardSaid : Prop := Claim7.holds Tryz.pinned (.plain (OpenSpec.upto txnKeysSpec)) txnKeysUptoCard
end Rows
end Go.Proofs.YtaifmfnmgnmgbaaGreatDoor
