/-
  DERIVED. GIVEN WITH THE SEED: THE CARDS: each row of YtfojgghnkjmjhaaDoorRows.lean that lists a variable, with what it lists TIED to the program's text (the seventh form; the later family's looks); each row that meets fmt, with fmt's text TOLD by the authors' own Lean function (tested against real Go, not proved from fmt's source: count such statements apart). THE CARD IS WHAT COUNTS. Prove the row's statement (the work); the ties are given (YtfojgghnkjmjhaaDoorTie.lean); close each card by the builder's one call (the guide's Derived/Test/ToyasCard.lean, 'card_holds'). Laid BY PROGRAM, IN A SANDBOX (cutbox-door.mjs). By AI agents, Wed Nov 11 2026. No macro, syntax, notation, axiom, sorry.
-/
import Derived.Test.YtfojgghnkjmjhaaDoorRows
import GoSem.ClaimSeven
namespace Go.Proofs.YtfojgghnkjmjhaaDoor
namespace Rows

/-- THE TIED CARD OF 'cohortlaw08.LocksPlays'. -/
def locksPlaysCard : Claim7 := { stood := { row := locksPlaysRow, standIns := [], harness := (true, "1f437b28dc9b81aeab1702045f2b2175fc1d6c5ad98b828dd1af9ab809a3915b"), looks := true }, kinds := [], alts := [], laidByText := true, laidKinds := [.handle], laidTests := true, laidLooks := .later }
def LocksPlaysCardSaid : Prop := Claim7.holds Tryd.pinned (.plain (OpenSpec.ofChange locksPlaysSpec)) locksPlaysCard

/-- THE SECOND FORM's CARD OF 'cohortlaw08.LocksPlays'. -/
def locksPlaysUptoCard : Claim7 := { stood := { row := locksPlaysUptoRow, standIns := [], harness := (true, "1f437b28dc9b81aeab1702045f2b2175fc1d6c5ad98b828dd1af9ab809a3915b"), looks := true }, kinds := [], alts := [], laidByText := true, laidKinds := [.handle], laidTests := true, laidLooks := .later }
def LocksPlaysUptoCardSaid : Prop := Claim7.holds Tryd.pinned (.plain (OpenSpec.upto locksPlaysSpec)) locksPlaysUptoCard
end Rows
end Go.Proofs.YtfojgghnkjmjhaaDoor
