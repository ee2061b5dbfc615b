/-
  NARROWER THAN 'FOR EVERY INPUT', by the rows' own cells (each row's printed sentence says how): RouteMoves: laid · RouteAll: laid · RouteCuts: laid · RouteWhole: laid · RouteOne: laid · RoutePlays: laid.
  DERIVED. THE GIVEN ROWS OF THIS SEAT. 6 by the template 'for every input the law returns true; each argument reads behind the call as it read before'; 0 by the template 'total and deterministic' (their statements: YtemgcliihbjjiaaDoorTotals.lean).
  GIVEN WITH THE SEED: the statements are not yours to turn. If you find one false, say at which input.
  Laid BY PROGRAM, IN A SANDBOX (cutbox-rows.mjs): the forced cells as the released guide's own fill.sh prints them over the translation fae2c671079cabd9… (all of the seat's roots in one cut). By AI agents, Wed Nov 11 2026. No macro, syntax, notation, axiom, sorry.
-/
import Derived.Test.YtemgcliihbjjiaaDoorChecked
import GoSem.Claim
import GoSem.ClaimJoined
import GoSem.ClaimMapViews
import Derived.JoinedTies
import Derived.KernelRfl
namespace Go.Proofs.YtemgcliihbjjiaaDoor
/- THE CELL 'sum', in the pinned program and in every row, IS THE sha256 OF THE DUMP (.gsa) THAT YtemgcliihbjjiaaDoorProg.lean LOADS. Nothing in Lean hashes anything: it is a label: what it is worth is what the hold of that sum in a sandbox is worth. -/
noncomputable def Tryd.pinned : Pinned := { name := "ytemgcliihbjjiaadoor", sum := "fae2c671079cabd90ca8a1cc6d38c2a61ab1d15fdffd9cd08cf5d145706e8f4c", checked := Tryd.checked }
namespace Rows
def none {H : Type} : Left H := { results := [], args := [] }

/- WHAT THE LISTED PACKAGE-LEVEL VARIABLES READ AS WHEN THE CALL BEGINS. Each datum BY PROGRAM (the guide's laid-datum.mjs) off the statement by which the dump's own 'gosem.cut.vars' lays the variable. In a bare row this is a premise. The card (YtemgcliihbjjiaaDoorCards.lean) ties it to the program's text. -/
def laid_errors_errorType {H : Type} : DataW H := .iface "internal/reflectlite.rtype" (.agg [.ptr (.lit (.string [101, 114, 114, 111, 114]))])

/-- 'cohortlaw09.RouteMoves': WHATEVER THE INPUT: true; the input reads as it did. -/
def routeMovesSpec : ChangeSpec := { name := "routeMoves", fn := fun _ => fun
  | [d1, d2, d3, d4] => { results := [.lit (.bool true)], args := [d1, d2, d3, d4] }
  | _ => none }
def routeMovesRow : OpenClaim := { program := "ytemgcliihbjjiaadoor", sum := "fae2c671079cabd90ca8a1cc6d38c2a61ab1d15fdffd9cd08cf5d145706e8f4c", func := "cohort/cohortlaw09.RouteMoves", spec := "routeMoves", inPlace := ["slices.overlaps[cohort/api.Piece]", "internal/reflectlite.ValueOf", "(internal/reflectlite.Value).Type", "(internal/reflectlite.Value).IsNil", "internal/reflectlite.TypeOf", "(internal/reflectlite.Value).Elem", "(internal/reflectlite.Value).Set"], unfollowed := true, recurses := true, named := ["errors.errorType"], apart := false, laid := [("errors.errorType", laid_errors_errorType)] }
def RouteMovesSaid : Prop := routeMovesRow.holds Tryd.pinned (OpenSpec.ofChange routeMovesSpec)

/-- ITS FALSE NEIGHBOUR: 'it returns false'. Refute it at one input. -/
def routeMovesWrong : ChangeSpec := { name := "routeMoves", fn := fun _ => fun
  | [d1, d2, d3, d4] => { results := [.lit (.bool false)], args := [d1, d2, d3, d4] }
  | _ => none }
def RouteMovesWrongFalsely : Prop := routeMovesRow.holds Tryd.pinned (OpenSpec.ofChange routeMovesWrong)

/-- 'cohortlaw09.RouteAll': WHATEVER THE INPUT: true; the input reads as it did. -/
def routeAllSpec : ChangeSpec := { name := "routeAll", fn := fun _ => fun
  | [d1, d2, d3, d4] => { results := [.lit (.bool true)], args := [d1, d2, d3, d4] }
  | _ => none }
def routeAllRow : OpenClaim := { program := "ytemgcliihbjjiaadoor", sum := "fae2c671079cabd90ca8a1cc6d38c2a61ab1d15fdffd9cd08cf5d145706e8f4c", func := "cohort/cohortlaw09.RouteAll", spec := "routeAll", inPlace := ["slices.overlaps[cohort/api.Piece]", "internal/reflectlite.ValueOf", "(internal/reflectlite.Value).Type", "(internal/reflectlite.Value).IsNil", "internal/reflectlite.TypeOf", "(internal/reflectlite.Value).Elem", "(internal/reflectlite.Value).Set"], unfollowed := true, recurses := true, named := ["errors.errorType"], apart := false, laid := [("errors.errorType", laid_errors_errorType)] }
def RouteAllSaid : Prop := routeAllRow.holds Tryd.pinned (OpenSpec.ofChange routeAllSpec)

/-- ITS FALSE NEIGHBOUR: 'it returns false'. Refute it at one input. -/
def routeAllWrong : ChangeSpec := { name := "routeAll", fn := fun _ => fun
  | [d1, d2, d3, d4] => { results := [.lit (.bool false)], args := [d1, d2, d3, d4] }
  | _ => none }
def RouteAllWrongFalsely : Prop := routeAllRow.holds Tryd.pinned (OpenSpec.ofChange routeAllWrong)

/-- 'cohortlaw09.RouteCuts': WHATEVER THE INPUT: true; the input reads as it did. -/
def routeCutsSpec : ChangeSpec := { name := "routeCuts", fn := fun _ => fun
  | [d1, d2] => { results := [.lit (.bool true)], args := [d1, d2] }
  | _ => none }
def routeCutsRow : OpenClaim := { program := "ytemgcliihbjjiaadoor", sum := "fae2c671079cabd90ca8a1cc6d38c2a61ab1d15fdffd9cd08cf5d145706e8f4c", func := "cohort/cohortlaw09.RouteCuts", spec := "routeCuts", inPlace := ["slices.overlaps[cohort/api.Piece]", "internal/reflectlite.ValueOf", "(internal/reflectlite.Value).Type", "(internal/reflectlite.Value).IsNil", "internal/reflectlite.TypeOf", "(internal/reflectlite.Value).Elem", "(internal/reflectlite.Value).Set"], unfollowed := true, recurses := true, named := ["errors.errorType"], apart := false, laid := [("errors.errorType", laid_errors_errorType)] }
def RouteCutsSaid : Prop := routeCutsRow.holds Tryd.pinned (OpenSpec.ofChange routeCutsSpec)

/-- ITS FALSE NEIGHBOUR: 'it returns false'. Refute it at one input. -/
def routeCutsWrong : ChangeSpec := { name := "routeCuts", fn := fun _ => fun
  | [d1, d2] => { results := [.lit (.bool false)], args := [d1, d2] }
  | _ => none }
def RouteCutsWrongFalsely : Prop := routeCutsRow.holds Tryd.pinned (OpenSpec.ofChange routeCutsWrong)

/-- 'cohortlaw09.RouteWhole': WHATEVER THE INPUT: true; the input reads as it did. -/
def routeWholeSpec : ChangeSpec := { name := "routeWhole", fn := fun _ => fun
  | [d1, d2, d3] => { results := [.lit (.bool true)], args := [d1, d2, d3] }
  | _ => none }
def routeWholeRow : OpenClaim := { program := "ytemgcliihbjjiaadoor", sum := "fae2c671079cabd90ca8a1cc6d38c2a61ab1d15fdffd9cd08cf5d145706e8f4c", func := "cohort/cohortlaw09.RouteWhole", spec := "routeWhole", inPlace := ["slices.overlaps[cohort/api.Piece]", "internal/reflectlite.ValueOf", "(internal/reflectlite.Value).Type", "(internal/reflectlite.Value).IsNil", "internal/reflectlite.TypeOf", "(internal/reflectlite.Value).Elem", "(internal/reflectlite.Value).Set"], unfollowed := true, recurses := true, named := ["errors.errorType"], apart := false, laid := [("errors.errorType", laid_errors_errorType)] }
def RouteWholeSaid : Prop := routeWholeRow.holds Tryd.pinned (OpenSpec.ofChange routeWholeSpec)

/-- ITS FALSE NEIGHBOUR: 'it returns false'. Refute it at one input. -/
def routeWholeWrong : ChangeSpec := { name := "routeWhole", fn := fun _ => fun
  | [d1, d2, d3] => { results := [.lit (.bool false)], args := [d1, d2, d3] }
  | _ => none }
def RouteWholeWrongFalsely : Prop := routeWholeRow.holds Tryd.pinned (OpenSpec.ofChange routeWholeWrong)

/-- 'cohortlaw09.RouteOne': WHATEVER THE INPUT: true; the input reads as it did. -/
def routeOneSpec : ChangeSpec := { name := "routeOne", fn := fun _ => fun
  | [d1, d2, d3, d4, d5] => { results := [.lit (.bool true)], args := [d1, d2, d3, d4, d5] }
  | _ => none }
def routeOneRow : OpenClaim := { program := "ytemgcliihbjjiaadoor", sum := "fae2c671079cabd90ca8a1cc6d38c2a61ab1d15fdffd9cd08cf5d145706e8f4c", func := "cohort/cohortlaw09.RouteOne", spec := "routeOne", inPlace := ["slices.overlaps[cohort/api.Piece]", "internal/reflectlite.ValueOf", "(internal/reflectlite.Value).Type", "(internal/reflectlite.Value).IsNil", "internal/reflectlite.TypeOf", "(internal/reflectlite.Value).Elem", "(internal/reflectlite.Value).Set"], unfollowed := true, recurses := true, named := ["errors.errorType"], apart := false, laid := [("errors.errorType", laid_errors_errorType)] }
def RouteOneSaid : Prop := routeOneRow.holds Tryd.pinned (OpenSpec.ofChange routeOneSpec)

/-- ITS FALSE NEIGHBOUR: 'it returns false'. Refute it at one input. -/
def routeOneWrong : ChangeSpec := { name := "routeOne", fn := fun _ => fun
  | [d1, d2, d3, d4, d5] => { results := [.lit (.bool false)], args := [d1, d2, d3, d4, d5] }
  | _ => none }
def RouteOneWrongFalsely : Prop := routeOneRow.holds Tryd.pinned (OpenSpec.ofChange routeOneWrong)

/-- 'cohortlaw09.RoutePlays': WHATEVER THE INPUT: true; the input reads as it did. -/
def routePlaysSpec : ChangeSpec := { name := "routePlays", fn := fun _ => fun
  | [d1, d2, d3] => { results := [.lit (.bool true)], args := [d1, d2, d3] }
  | _ => none }
def routePlaysRow : OpenClaim := { program := "ytemgcliihbjjiaadoor", sum := "fae2c671079cabd90ca8a1cc6d38c2a61ab1d15fdffd9cd08cf5d145706e8f4c", func := "cohort/cohortlaw09.RoutePlays", spec := "routePlays", inPlace := ["slices.overlaps[cohort/api.Piece]", "internal/reflectlite.ValueOf", "(internal/reflectlite.Value).Type", "(internal/reflectlite.Value).IsNil", "internal/reflectlite.TypeOf", "(internal/reflectlite.Value).Elem", "(internal/reflectlite.Value).Set"], unfollowed := true, recurses := true, named := ["errors.errorType"], apart := false, laid := [("errors.errorType", laid_errors_errorType)] }
def RoutePlaysSaid : Prop := routePlaysRow.holds Tryd.pinned (OpenSpec.ofChange routePlaysSpec)

/-- ITS FALSE NEIGHBOUR: 'it returns false'. Refute it at one input. -/
def routePlaysWrong : ChangeSpec := { name := "routePlays", fn := fun _ => fun
  | [d1, d2, d3] => { results := [.lit (.bool false)], args := [d1, d2, d3] }
  | _ => none }
def RoutePlaysWrongFalsely : Prop := routePlaysRow.holds Tryd.pinned (OpenSpec.ofChange routePlaysWrong)

/- THE SECOND FORM. 'bulk': how many values and letters a reading holds, each counted each time it is reached (what is shared counts as often as it is met; a slice's spare places count too). A statement '..UptoSaid' is the law's where the arguments, and the package variables that the reading takes, are together of bulk at most 1048576: NARROWER than '..Said'. Prove '..Said' where nothing that the law and all that it calls make is longer than what came in: it says more and counts as full. Else prove '..UptoSaid'. A law counts once. -/
mutual
def uptoBulk {H : Type} : DataW H → Nat
  | .lit (.string bytes) => bytes.length + 1
  | .lit _ => 1
  | .nil => 1
  | .ptr d => uptoBulk d + 1
  | .slice elems spare => uptoBulkAll elems + uptoBulkAll spare + 1
  | .agg parts => uptoBulkAll parts + 1
  | .iface _ d => uptoBulk d + 1
  | .map entries => uptoBulkEntries entries + 1
  | .held _ => 1
def uptoBulkAll {H : Type} : List (DataW H) → Nat
  | [] => 0
  | d :: r => uptoBulk d + uptoBulkAll r
def uptoBulkEntries {H : Type} : List (Lit × DataW H) → Nat
  | [] => 0
  | x :: r => uptoBulkEntry x + uptoBulkEntries r
def uptoBulkEntry {H : Type} : Lit × DataW H → Nat
  | (.string bytes, d) => bytes.length + uptoBulk d + 1
  | (_, d) => uptoBulk d + 1
 end
def uptoSmall : (H : Type) → List (DataW H) → Bool := fun _ ds => decide (uptoBulkAll ds ≤ 1048576)
def OpenSpec.upto (s : _root_.Go.ChangeSpec) : _root_.Go.OpenSpec := { _root_.Go.OpenSpec.ofChange s with cond := some uptoSmall }

/-- 'cohortlaw09.RouteMoves', WHERE WHAT IT READS IS OF BULK AT MOST 1048576: true; the input reads as it did. -/
def routeMovesUptoRow : OpenClaim := { program := "ytemgcliihbjjiaadoor", sum := "fae2c671079cabd90ca8a1cc6d38c2a61ab1d15fdffd9cd08cf5d145706e8f4c", func := "cohort/cohortlaw09.RouteMoves", spec := "routeMoves", inPlace := ["slices.overlaps[cohort/api.Piece]", "internal/reflectlite.ValueOf", "(internal/reflectlite.Value).Type", "(internal/reflectlite.Value).IsNil", "internal/reflectlite.TypeOf", "(internal/reflectlite.Value).Elem", "(internal/reflectlite.Value).Set"], unfollowed := true, recurses := true, named := ["errors.errorType"], apart := false, laid := [("errors.errorType", laid_errors_errorType)], narrowed := true }
def RouteMovesUptoSaid : Prop := routeMovesUptoRow.holds Tryd.pinned (OpenSpec.upto routeMovesSpec)

/-- 'cohortlaw09.RouteAll', WHERE WHAT IT READS IS OF BULK AT MOST 1048576: true; the input reads as it did. -/
def routeAllUptoRow : OpenClaim := { program := "ytemgcliihbjjiaadoor", sum := "fae2c671079cabd90ca8a1cc6d38c2a61ab1d15fdffd9cd08cf5d145706e8f4c", func := "cohort/cohortlaw09.RouteAll", spec := "routeAll", inPlace := ["slices.overlaps[cohort/api.Piece]", "internal/reflectlite.ValueOf", "(internal/reflectlite.Value).Type", "(internal/reflectlite.Value).IsNil", "internal/reflectlite.TypeOf", "(internal/reflectlite.Value).Elem", "(internal/reflectlite.Value).Set"], unfollowed := true, recurses := true, named := ["errors.errorType"], apart := false, laid := [("errors.errorType", laid_errors_errorType)], narrowed := true }
def RouteAllUptoSaid : Prop := routeAllUptoRow.holds Tryd.pinned (OpenSpec.upto routeAllSpec)

/-- 'cohortlaw09.RouteCuts', WHERE WHAT IT READS IS OF BULK AT MOST 1048576: true; the input reads as it did. -/
def routeCutsUptoRow : OpenClaim := { program := "ytemgcliihbjjiaadoor", sum := "fae2c671079cabd90ca8a1cc6d38c2a61ab1d15fdffd9cd08cf5d145706e8f4c", func := "cohort/cohortlaw09.RouteCuts", spec := "routeCuts", inPlace := ["slices.overlaps[cohort/api.Piece]", "internal/reflectlite.ValueOf", "(internal/reflectlite.Value).Type", "(internal/reflectlite.Value).IsNil", "internal/reflectlite.TypeOf", "(internal/reflectlite.Value).Elem", "(internal/reflectlite.Value).Set"], unfollowed := true, recurses := true, named := ["errors.errorType"], apart := false, laid := [("errors.errorType", laid_errors_errorType)], narrowed := true }
def RouteCutsUptoSaid : Prop := routeCutsUptoRow.holds Tryd.pinned (OpenSpec.upto routeCutsSpec)

/-- 'cohortlaw09.RouteWhole', WHERE WHAT IT READS IS OF BULK AT MOST 1048576: true; the input reads as it did. -/
def routeWholeUptoRow : OpenClaim := { program := "ytemgcliihbjjiaadoor", sum := "fae2c671079cabd90ca8a1cc6d38c2a61ab1d15fdffd9cd08cf5d145706e8f4c", func := "cohort/cohortlaw09.RouteWhole", spec := "routeWhole", inPlace := ["slices.overlaps[cohort/api.Piece]", "internal/reflectlite.ValueOf", "(internal/reflectlite.Value).Type", "(internal/reflectlite.Value).IsNil", "internal/reflectlite.TypeOf", "(internal/reflectlite.Value).Elem", "(internal/reflectlite.Value).Set"], unfollowed := true, recurses := true, named := ["errors.errorType"], apart := false, laid := [("errors.errorType", laid_errors_errorType)], narrowed := true }
def RouteWholeUptoSaid : Prop := routeWholeUptoRow.holds Tryd.pinned (OpenSpec.upto routeWholeSpec)

/-- 'cohortlaw09.RouteOne', WHERE WHAT IT READS IS OF BULK AT MOST 1048576: true; the input reads as it did. -/
def routeOneUptoRow : OpenClaim := { program := "ytemgcliihbjjiaadoor", sum := "fae2c671079cabd90ca8a1cc6d38c2a61ab1d15fdffd9cd08cf5d145706e8f4c", func := "cohort/cohortlaw09.RouteOne", spec := "routeOne", inPlace := ["slices.overlaps[cohort/api.Piece]", "internal/reflectlite.ValueOf", "(internal/reflectlite.Value).Type", "(internal/reflectlite.Value).IsNil", "internal/reflectlite.TypeOf", "(internal/reflectlite.Value).Elem", "(internal/reflectlite.Value).Set"], unfollowed := true, recurses := true, named := ["errors.errorType"], apart := false, laid := [("errors.errorType", laid_errors_errorType)], narrowed := true }
def RouteOneUptoSaid : Prop := routeOneUptoRow.holds Tryd.pinned (OpenSpec.upto routeOneSpec)

/-- 'cohortlaw09.RoutePlays', WHERE WHAT IT READS IS OF BULK AT MOST 1048576: true; the input reads as it did. -/
def routePlaysUptoRow : OpenClaim := { program := "ytemgcliihbjjiaadoor", sum := "fae2c671079cabd90ca8a1cc6d38c2a61ab1d15fdffd9cd08cf5d145706e8f4c", func := "cohort/cohortlaw09.RoutePlays", spec := "routePlays", inPlace := ["slices.overlaps[cohort/api.Piece]", "internal/reflectlite.ValueOf", "(internal/reflectlite.Value).Type", "(internal/reflectlite.Value).IsNil", "internal/reflectlite.TypeOf", "(internal/reflectlite.Value).Elem", "(internal/reflectlite.Value).Set"], unfollowed := true, recurses := true, named := ["errors.errorType"], apart := false, laid := [("errors.errorType", laid_errors_errorType)], narrowed := true }
def RoutePlaysUptoSaid : Prop := routePlaysUptoRow.holds Tryd.pinned (OpenSpec.upto routePlaysSpec)

end Rows
end Go.Proofs.YtemgcliihbjjiaaDoor
