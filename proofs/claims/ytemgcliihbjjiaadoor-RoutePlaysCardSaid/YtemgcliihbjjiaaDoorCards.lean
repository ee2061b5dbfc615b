/-
  DERIVED. GIVEN WITH THE SEED: THE CARDS: each row of YtemgcliihbjjiaaDoorRows.lean that lists a variable, with what it lists TIED to the program's text (the seventh form; the later family's looks); each row that meets fmt, with fmt's text TOLD by the authors' own Lean function (tested against real Go, not proved from fmt's source: count such statements apart). THE CARD IS WHAT COUNTS. Prove the row's statement (the work); the ties are given (YtemgcliihbjjiaaDoorTie.lean); close each card by the builder's one call (the guide's Derived/Test/ToyasCard.lean, 'card_holds'). Laid BY PROGRAM, IN A SANDBOX (cutbox-door.mjs). By AI agents, Wed Nov 11 2026. No macro, syntax, notation, axiom, sorry.
-/
import Derived.Test.YtemgcliihbjjiaaDoorRows
import GoSem.ClaimSeven
namespace Go.Proofs.YtemgcliihbjjiaaDoor
namespace Rows

/-- THE TIED CARD OF 'cohortlaw09.RouteMoves'. -/
def routeMovesCard : Claim7 := { stood := { row := routeMovesRow, standIns := [], harness := (true, "8384ce37654ec2d1ce739624f7f7dbd1b9322315f3ada450a7fa9e941b5c44ef"), looks := true }, kinds := [], alts := [], laidByText := true, laidKinds := [.handle], laidTests := true, laidLooks := .later }
def RouteMovesCardSaid : Prop := Claim7.holds Tryd.pinned (.plain (OpenSpec.ofChange routeMovesSpec)) routeMovesCard

/-- THE TIED CARD OF 'cohortlaw09.RouteAll'. -/
def routeAllCard : Claim7 := { stood := { row := routeAllRow, standIns := [], harness := (true, "8384ce37654ec2d1ce739624f7f7dbd1b9322315f3ada450a7fa9e941b5c44ef"), looks := true }, kinds := [], alts := [], laidByText := true, laidKinds := [.handle], laidTests := true, laidLooks := .later }
def RouteAllCardSaid : Prop := Claim7.holds Tryd.pinned (.plain (OpenSpec.ofChange routeAllSpec)) routeAllCard

/-- THE TIED CARD OF 'cohortlaw09.RouteCuts'. -/
def routeCutsCard : Claim7 := { stood := { row := routeCutsRow, standIns := [], harness := (true, "8384ce37654ec2d1ce739624f7f7dbd1b9322315f3ada450a7fa9e941b5c44ef"), looks := true }, kinds := [], alts := [], laidByText := true, laidKinds := [.handle], laidTests := true, laidLooks := .later }
def RouteCutsCardSaid : Prop := Claim7.holds Tryd.pinned (.plain (OpenSpec.ofChange routeCutsSpec)) routeCutsCard

/-- THE TIED CARD OF 'cohortlaw09.RouteWhole'. -/
def routeWholeCard : Claim7 := { stood := { row := routeWholeRow, standIns := [], harness := (true, "8384ce37654ec2d1ce739624f7f7dbd1b9322315f3ada450a7fa9e941b5c44ef"), looks := true }, kinds := [], alts := [], laidByText := true, laidKinds := [.handle], laidTests := true, laidLooks := .later }
def RouteWholeCardSaid : Prop := Claim7.holds Tryd.pinned (.plain (OpenSpec.ofChange routeWholeSpec)) routeWholeCard

/-- THE TIED CARD OF 'cohortlaw09.RouteOne'. -/
def routeOneCard : Claim7 := { stood := { row := routeOneRow, standIns := [], harness := (true, "8384ce37654ec2d1ce739624f7f7dbd1b9322315f3ada450a7fa9e941b5c44ef"), looks := true }, kinds := [], alts := [], laidByText := true, laidKinds := [.handle], laidTests := true, laidLooks := .later }
def RouteOneCardSaid : Prop := Claim7.holds Tryd.pinned (.plain (OpenSpec.ofChange routeOneSpec)) routeOneCard

/-- THE TIED CARD OF 'cohortlaw09.RoutePlays'. -/
def routePlaysCard : Claim7 := { stood := { row := routePlaysRow, standIns := [], harness := (true, "8384ce37654ec2d1ce739624f7f7dbd1b9322315f3ada450a7fa9e941b5c44ef"), looks := true }, kinds := [], alts := [], laidByText := true, laidKinds := [.handle], laidTests := true, laidLooks := .later }
def RoutePlaysCardSaid : Prop := Claim7.holds Tryd.pinned (.plain (OpenSpec.ofChange routePlaysSpec)) routePlaysCard

/-- THE SECOND FORM's CARD OF 'cohortlaw09.RouteMoves'. -/
def routeMovesUptoCard : Claim7 := { stood := { row := routeMovesUptoRow, standIns := [], harness := (true, "8384ce37654ec2d1ce739624f7f7dbd1b9322315f3ada450a7fa9e941b5c44ef"), looks := true }, kinds := [], alts := [], laidByText := true, laidKinds := [.handle], laidTests := true, laidLooks := .later }
def RouteMovesUptoCardSaid : Prop := Claim7.holds Tryd.pinned (.plain (OpenSpec.upto routeMovesSpec)) routeMovesUptoCard

/-- THE SECOND FORM's CARD OF 'cohortlaw09.RouteAll'. -/
def routeAllUptoCard : Claim7 := { stood := { row := routeAllUptoRow, standIns := [], harness := (true, "8384ce37654ec2d1ce739624f7f7dbd1b9322315f3ada450a7fa9e941b5c44ef"), looks := true }, kinds := [], alts := [], laidByText := true, laidKinds := [.handle], laidTests := true, laidLooks := .later }
def RouteAllUptoCardSaid : Prop := Claim7.holds Tryd.pinned (.plain (OpenSpec.upto routeAllSpec)) routeAllUptoCard

/-- THE SECOND FORM's CARD OF 'cohortlaw09.RouteCuts'. -/
def routeCutsUptoCard : Claim7 := { stood := { row := routeCutsUptoRow, standIns := [], harness := (true, "8384ce37654ec2d1ce739624f7f7dbd1b9322315f3ada450a7fa9e941b5c44ef"), looks := true }, kinds := [], alts := [], laidByText := true, laidKinds := [.handle], laidTests := true, laidLooks := .later }
def RouteCutsUptoCardSaid : Prop := Claim7.holds Tryd.pinned (.plain (OpenSpec.upto routeCutsSpec)) routeCutsUptoCard

/-- THE SECOND FORM's CARD OF 'cohortlaw09.RouteWhole'. -/
def routeWholeUptoCard : Claim7 := { stood := { row := routeWholeUptoRow, standIns := [], harness := (true, "8384ce37654ec2d1ce739624f7f7dbd1b9322315f3ada450a7fa9e941b5c44ef"), looks := true }, kinds := [], alts := [], laidByText := true, laidKinds := [.handle], laidTests := true, laidLooks := .later }
def RouteWholeUptoCardSaid : Prop := Claim7.holds Tryd.pinned (.plain (OpenSpec.upto routeWholeSpec)) routeWholeUptoCard

/-- THE SECOND FORM's CARD OF 'cohortlaw09.RouteOne'. -/
def routeOneUptoCard : Claim7 := { stood := { row := routeOneUptoRow, standIns := [], harness := (true, "8384ce37654ec2d1ce739624f7f7dbd1b9322315f3ada450a7fa9e941b5c44ef"), looks := true }, kinds := [], alts := [], laidByText := true, laidKinds := [.handle], laidTests := true, laidLooks := .later }
def RouteOneUptoCardSaid : Prop := Claim7.holds Tryd.pinned (.plain (OpenSpec.upto routeOneSpec)) routeOneUptoCard

/-- THE SECOND FORM's CARD OF 'cohortlaw09.RoutePlays'. -/
def routePlaysUptoCard : Claim7 := { stood := { row := routePlaysUptoRow, standIns := [], harness := (true, "8384ce37654ec2d1ce739624f7f7dbd1b9322315f3ada450a7fa9e941b5c44ef"), looks := true }, kinds := [], alts := [], laidByText := true, laidKinds := [.handle], laidTests := true, laidLooks := .later }
def RoutePlaysUptoCardSaid : Prop := Claim7.holds Tryd.pinned (.plain (OpenSpec.upto routePlaysSpec)) routePlaysUptoCard
end Rows
end Go.Proofs.YtemgcliihbjjiaaDoor
