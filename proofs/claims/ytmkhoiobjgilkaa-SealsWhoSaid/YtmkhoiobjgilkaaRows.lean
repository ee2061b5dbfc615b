/-
  No cell of these rows narrows 'for every input' (looked for: loops, veiled, ifaces, maps, wideKeys, modest, calm, conditions, laid).
  DERIVED. THE GIVEN ROWS OF THIS SEAT. 4 by the template 'for every input the law returns true; each argument reads behind the call as it read before'; 0 by the template 'total and deterministic' (their statements: YtmkhoiobjgilkaaTotals.lean).
  GIVEN WITH THE SEED: the statements are not yours to turn. If you find one false, say at which input.
  Laid BY PROGRAM, IN A SANDBOX (cutbox-rows.mjs): the forced cells as the released guide's own fill.sh prints them over the translation fa5b22d270f56cea… (all of the seat's roots in one cut). By AI agents, Wed Nov 11 2026. No macro, syntax, notation, axiom, sorry.
-/
import Derived.Test.YtmkhoiobjgilkaaChecked
import GoSem.Claim
import GoSem.ClaimJoined
import GoSem.ClaimMapViews
import Derived.JoinedTies
import Derived.KernelRfl
namespace Go.Proofs.Ytmkhoiobjgilkaa
/- THE CELL 'sum', in the pinned program and in every row, IS THE sha256 OF THE DUMP (.gsa) THAT YtmkhoiobjgilkaaProg.lean LOADS. Nothing in Lean hashes anything: it is a label: what it is worth is what the hold of that sum in a sandbox is worth. -/
noncomputable def Try.pinned : Pinned := { name := "ytmkhoiobjgilkaa", sum := "fa5b22d270f56cea624eb31f17d4311b5d4bb7f191a878e077efd1f775e5a79f", checked := Try.checked }
namespace Rows
def none {H : Type} : Left H := { results := [], args := [] }

/-- 'cohortlaw04.SealsNames': WHATEVER THE INPUT: true; the input reads as it did. -/
def sealsNamesSpec : ChangeSpec := { name := "sealsNames", fn := fun _ => fun
  | [d1, d2] => { results := [.lit (.bool true)], args := [d1, d2] }
  | _ => none }
def sealsNamesRow : OpenClaim := { program := "ytmkhoiobjgilkaa", sum := "fa5b22d270f56cea624eb31f17d4311b5d4bb7f191a878e077efd1f775e5a79f", func := "cohort/cohortlaw04.SealsNames", spec := "sealsNames", unfollowed := true, recurses := true, plainKeys := false, apart := false }
def SealsNamesSaid : Prop := sealsNamesRow.holds Try.pinned (OpenSpec.ofChange sealsNamesSpec)

/-- ITS FALSE NEIGHBOUR: 'it returns false'. Refute it at one input. -/
def sealsNamesWrong : ChangeSpec := { name := "sealsNames", fn := fun _ => fun
  | [d1, d2] => { results := [.lit (.bool false)], args := [d1, d2] }
  | _ => none }
def SealsNamesWrongFalsely : Prop := sealsNamesRow.holds Try.pinned (OpenSpec.ofChange sealsNamesWrong)

/-- 'cohortlaw04.SealsStay': WHATEVER THE INPUT: true; the input reads as it did. -/
def sealsStaySpec : ChangeSpec := { name := "sealsStay", fn := fun _ => fun
  | [d1, d2, d3] => { results := [.lit (.bool true)], args := [d1, d2, d3] }
  | _ => none }
def sealsStayRow : OpenClaim := { program := "ytmkhoiobjgilkaa", sum := "fa5b22d270f56cea624eb31f17d4311b5d4bb7f191a878e077efd1f775e5a79f", func := "cohort/cohortlaw04.SealsStay", spec := "sealsStay", unfollowed := true, recurses := true, plainKeys := false, apart := false }
def SealsStaySaid : Prop := sealsStayRow.holds Try.pinned (OpenSpec.ofChange sealsStaySpec)

/-- ITS FALSE NEIGHBOUR: 'it returns false'. Refute it at one input. -/
def sealsStayWrong : ChangeSpec := { name := "sealsStay", fn := fun _ => fun
  | [d1, d2, d3] => { results := [.lit (.bool false)], args := [d1, d2, d3] }
  | _ => none }
def SealsStayWrongFalsely : Prop := sealsStayRow.holds Try.pinned (OpenSpec.ofChange sealsStayWrong)

/-- 'cohortlaw04.SealsWho': WHATEVER THE INPUT: true; the input reads as it did. -/
def sealsWhoSpec : ChangeSpec := { name := "sealsWho", fn := fun _ => fun
  | [d1, d2, d3] => { results := [.lit (.bool true)], args := [d1, d2, d3] }
  | _ => none }
def sealsWhoRow : OpenClaim := { program := "ytmkhoiobjgilkaa", sum := "fa5b22d270f56cea624eb31f17d4311b5d4bb7f191a878e077efd1f775e5a79f", func := "cohort/cohortlaw04.SealsWho", spec := "sealsWho", unfollowed := true, recurses := true, plainKeys := false, apart := false }
def SealsWhoSaid : Prop := sealsWhoRow.holds Try.pinned (OpenSpec.ofChange sealsWhoSpec)

/-- ITS FALSE NEIGHBOUR: 'it returns false'. Refute it at one input. -/
def sealsWhoWrong : ChangeSpec := { name := "sealsWho", fn := fun _ => fun
  | [d1, d2, d3] => { results := [.lit (.bool false)], args := [d1, d2, d3] }
  | _ => none }
def SealsWhoWrongFalsely : Prop := sealsWhoRow.holds Try.pinned (OpenSpec.ofChange sealsWhoWrong)

/-- 'cohortlaw04.SealsOthers': WHATEVER THE INPUT: true; the input reads as it did. -/
def sealsOthersSpec : ChangeSpec := { name := "sealsOthers", fn := fun _ => fun
  | [d1, d2, d3, d4, d5] => { results := [.lit (.bool true)], args := [d1, d2, d3, d4, d5] }
  | _ => none }
def sealsOthersRow : OpenClaim := { program := "ytmkhoiobjgilkaa", sum := "fa5b22d270f56cea624eb31f17d4311b5d4bb7f191a878e077efd1f775e5a79f", func := "cohort/cohortlaw04.SealsOthers", spec := "sealsOthers", unfollowed := true, recurses := true, plainKeys := false, apart := false }
def SealsOthersSaid : Prop := sealsOthersRow.holds Try.pinned (OpenSpec.ofChange sealsOthersSpec)

/-- ITS FALSE NEIGHBOUR: 'it returns false'. Refute it at one input. -/
def sealsOthersWrong : ChangeSpec := { name := "sealsOthers", fn := fun _ => fun
  | [d1, d2, d3, d4, d5] => { results := [.lit (.bool false)], args := [d1, d2, d3, d4, d5] }
  | _ => none }
def SealsOthersWrongFalsely : Prop := sealsOthersRow.holds Try.pinned (OpenSpec.ofChange sealsOthersWrong)

/- THE SECOND FORM. 'bulk': how many values and letters a reading holds, each counted each time it is reached (what is shared counts as often as it is met; a slice's spare places count too). A statement '..UptoSaid' is the law's where the arguments, and the package variables that the reading takes, are together of bulk at most 1048576: NARROWER than '..Said'. Prove '..Said' where nothing that the law and all that it calls make is longer than what came in: it says more and counts as full. Else prove '..UptoSaid'. A law counts once. -/
mutual
def uptoBulk {H : Type} : DataW H → Nat
  | .lit (.string bytes) => bytes.length + 1
  | .lit _ => 1
  | .nil => 1
  | .ptr d => uptoBulk d + 1
  | .slice elems spare => uptoBulkAll elems + uptoBulkAll spare + 1
  | .agg parts => uptoBulkAll parts + 1
  | .iface _ d => uptoBulk d + 1
  | .map entries => uptoBulkEntries entries + 1
  | .held _ => 1
def uptoBulkAll {H : Type} : List (DataW H) → Nat
  | [] => 0
  | d :: r => uptoBulk d + uptoBulkAll r
def uptoBulkEntries {H : Type} : List (Lit × DataW H) → Nat
  | [] => 0
  | x :: r => uptoBulkEntry x + uptoBulkEntries r
def uptoBulkEntry {H : Type} : Lit × DataW H → Nat
  | (.string bytes, d) => bytes.length + uptoBulk d + 1
  | (_, d) => uptoBulk d + 1
 end
def uptoSmall : (H : Type) → List (DataW H) → Bool := fun _ ds => decide (uptoBulkAll ds ≤ 1048576)
def OpenSpec.upto (s : _root_.Go.ChangeSpec) : _root_.Go.OpenSpec := { _root_.Go.OpenSpec.ofChange s with cond := some uptoSmall }

/-- 'cohortlaw04.SealsNames', WHERE WHAT IT READS IS OF BULK AT MOST 1048576: true; the input reads as it did. -/
def sealsNamesUptoRow : OpenClaim := { program := "ytmkhoiobjgilkaa", sum := "fa5b22d270f56cea624eb31f17d4311b5d4bb7f191a878e077efd1f775e5a79f", func := "cohort/cohortlaw04.SealsNames", spec := "sealsNames", unfollowed := true, recurses := true, plainKeys := false, apart := false, narrowed := true }
def SealsNamesUptoSaid : Prop := sealsNamesUptoRow.holds Try.pinned (OpenSpec.upto sealsNamesSpec)

/-- 'cohortlaw04.SealsStay', WHERE WHAT IT READS IS OF BULK AT MOST 1048576: true; the input reads as it did. -/
def sealsStayUptoRow : OpenClaim := { program := "ytmkhoiobjgilkaa", sum := "fa5b22d270f56cea624eb31f17d4311b5d4bb7f191a878e077efd1f775e5a79f", func := "cohort/cohortlaw04.SealsStay", spec := "sealsStay", unfollowed := true, recurses := true, plainKeys := false, apart := false, narrowed := true }
def SealsStayUptoSaid : Prop := sealsStayUptoRow.holds Try.pinned (OpenSpec.upto sealsStaySpec)

/-- 'cohortlaw04.SealsWho', WHERE WHAT IT READS IS OF BULK AT MOST 1048576: true; the input reads as it did. -/
def sealsWhoUptoRow : OpenClaim := { program := "ytmkhoiobjgilkaa", sum := "fa5b22d270f56cea624eb31f17d4311b5d4bb7f191a878e077efd1f775e5a79f", func := "cohort/cohortlaw04.SealsWho", spec := "sealsWho", unfollowed := true, recurses := true, plainKeys := false, apart := false, narrowed := true }
def SealsWhoUptoSaid : Prop := sealsWhoUptoRow.holds Try.pinned (OpenSpec.upto sealsWhoSpec)

/-- 'cohortlaw04.SealsOthers', WHERE WHAT IT READS IS OF BULK AT MOST 1048576: true; the input reads as it did. -/
def sealsOthersUptoRow : OpenClaim := { program := "ytmkhoiobjgilkaa", sum := "fa5b22d270f56cea624eb31f17d4311b5d4bb7f191a878e077efd1f775e5a79f", func := "cohort/cohortlaw04.SealsOthers", spec := "sealsOthers", unfollowed := true, recurses := true, plainKeys := false, apart := false, narrowed := true }
def SealsOthersUptoSaid : Prop := sealsOthersUptoRow.holds Try.pinned (OpenSpec.upto sealsOthersSpec)

end Rows
end Go.Proofs.Ytmkhoiobjgilkaa
