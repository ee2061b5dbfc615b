/-
  DERIVED. GIVEN WITH THE SEED: THE CARDS: each row of YtmpbeopbkllcnaaDoorRows.lean that lists a variable, with what it lists TIED to the program's text (the seventh form; the later family's looks); each row that meets fmt, with fmt's text TOLD by the authors' own Lean function (tested against real Go, not proved from fmt's source: count such statements apart). THE CARD IS WHAT COUNTS. Prove the row's statement (the work); the ties are given (YtmpbeopbkllcnaaDoorTie.lean); close each card by the builder's one call (the guide's Derived/Test/ToyasCard.lean, 'card_holds'). Laid BY PROGRAM, IN A SANDBOX (cutbox-door.mjs). By AI agents, Wed Nov 11 2026. No macro, syntax, notation, axiom, sorry.
-/
import Derived.Test.YtmpbeopbkllcnaaDoorRows
import GoSem.ClaimSeven
namespace Go.Proofs.YtmpbeopbkllcnaaDoor
namespace Rows

/-- THE TIED CARD OF 'cohortlaw04.SealsPlays'. -/
def sealsPlaysCard : Claim7 := { stood := { row := sealsPlaysRow, standIns := [], harness := (true, "28160ed7e90c59fd8efaf6f7de0711aab4c9c6c28c37d92195295cd8176446bd"), looks := true }, kinds := [], alts := [], laidByText := true, laidKinds := [.handle], laidTests := true, laidLooks := .later }
def SealsPlaysCardSaid : Prop := Claim7.holds Tryd.pinned (.plain (OpenSpec.ofChange sealsPlaysSpec)) sealsPlaysCard

/-- THE TIED CARD OF 'cohortlaw03.BookTells'. -/
def bookTellsCard : Claim7 := { stood := { row := bookTellsRow, standIns := [], harness := (true, "28160ed7e90c59fd8efaf6f7de0711aab4c9c6c28c37d92195295cd8176446bd"), looks := true }, kinds := [], alts := [], laidByText := true, laidKinds := [.handle], laidTests := true, laidLooks := .later }
def BookTellsCardSaid : Prop := Claim7.holds Tryd.pinned (.plain (OpenSpec.ofChange bookTellsSpec)) bookTellsCard

/-- THE TIED CARD OF 'cohortlaw08.LocksPlays'. -/
def locksPlaysCard : Claim7 := { stood := { row := locksPlaysRow, standIns := [], harness := (true, "28160ed7e90c59fd8efaf6f7de0711aab4c9c6c28c37d92195295cd8176446bd"), looks := true }, kinds := [], alts := [], laidByText := true, laidKinds := [.handle], laidTests := true, laidLooks := .later }
def LocksPlaysCardSaid : Prop := Claim7.holds Tryd.pinned (.plain (OpenSpec.ofChange locksPlaysSpec)) locksPlaysCard

/-- THE SECOND FORM's CARD OF 'cohortlaw04.SealsPlays'. -/
def sealsPlaysUptoCard : Claim7 := { stood := { row := sealsPlaysUptoRow, standIns := [], harness := (true, "28160ed7e90c59fd8efaf6f7de0711aab4c9c6c28c37d92195295cd8176446bd"), looks := true }, kinds := [], alts := [], laidByText := true, laidKinds := [.handle], laidTests := true, laidLooks := .later }
def SealsPlaysUptoCardSaid : Prop := Claim7.holds Tryd.pinned (.plain (OpenSpec.upto sealsPlaysSpec)) sealsPlaysUptoCard

/-- THE SECOND FORM's CARD OF 'cohortlaw03.BookTells'. -/
def bookTellsUptoCard : Claim7 := { stood := { row := bookTellsUptoRow, standIns := [], harness := (true, "28160ed7e90c59fd8efaf6f7de0711aab4c9c6c28c37d92195295cd8176446bd"), looks := true }, kinds := [], alts := [], laidByText := true, laidKinds := [.handle], laidTests := true, laidLooks := .later }
def BookTellsUptoCardSaid : Prop := Claim7.holds Tryd.pinned (.plain (OpenSpec.upto bookTellsSpec)) bookTellsUptoCard

/-- THE SECOND FORM's CARD OF 'cohortlaw08.LocksPlays'. -/
def locksPlaysUptoCard : Claim7 := { stood := { row := locksPlaysUptoRow, standIns := [], harness := (true, "28160ed7e90c59fd8efaf6f7de0711aab4c9c6c28c37d92195295cd8176446bd"), looks := true }, kinds := [], alts := [], laidByText := true, laidKinds := [.handle], laidTests := true, laidLooks := .later }
def LocksPlaysUptoCardSaid : Prop := Claim7.holds Tryd.pinned (.plain (OpenSpec.upto locksPlaysSpec)) locksPlaysUptoCard
end Rows
end Go.Proofs.YtmpbeopbkllcnaaDoor
