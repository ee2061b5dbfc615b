/-
  No cell of these rows narrows 'for every input' (looked for: loops, veiled, ifaces, maps, wideKeys, modest, calm, conditions, laid).
  DERIVED. THE GIVEN ROWS OF THIS SEAT. 3 by the template 'for every input the law returns true; each argument reads behind the call as it read before'; 0 by the template 'total and deterministic' (their statements: YtfojgghnkjmjhaaTotals.lean).
  GIVEN WITH THE SEED: the statements are not yours to turn. If you find one false, say at which input.
  Laid BY PROGRAM, IN A SANDBOX (cutbox-rows.mjs): the forced cells as the released guide's own fill.sh prints them over the translation 8a0abf95a227191b… (all of the seat's roots in one cut). By AI agents, Wed Nov 11 2026. No macro, syntax, notation, axiom, sorry.
-/
import Derived.Test.YtfojgghnkjmjhaaChecked
import GoSem.Claim
import GoSem.ClaimJoined
import GoSem.ClaimMapViews
import Derived.JoinedTies
import Derived.KernelRfl
namespace Go.Proofs.Ytfojgghnkjmjhaa
/- THE CELL 'sum', in the pinned program and in every row, IS THE sha256 OF THE DUMP (.gsa) THAT YtfojgghnkjmjhaaProg.lean LOADS. Nothing in Lean hashes anything: it is a label: what it is worth is what the hold of that sum in a sandbox is worth. -/
noncomputable def Try.pinned : Pinned := { name := "ytfojgghnkjmjhaa", sum := "8a0abf95a227191bfbd79f24a9c96504100ffd50f77a1d7a05c3deb018f00492", checked := Try.checked }
namespace Rows
def none {H : Type} : Left H := { results := [], args := [] }

/-- 'cohortlaw08.LocksAlone': WHATEVER THE INPUT: true; the input reads as it did. -/
def locksAloneSpec : ChangeSpec := { name := "locksAlone", fn := fun _ => fun
  | [d1, d2, d3, d4] => { results := [.lit (.bool true)], args := [d1, d2, d3, d4] }
  | _ => none }
def locksAloneRow : OpenClaim := { program := "ytfojgghnkjmjhaa", sum := "8a0abf95a227191bfbd79f24a9c96504100ffd50f77a1d7a05c3deb018f00492", func := "cohort/cohortlaw08.LocksAlone", spec := "locksAlone", unfollowed := true, recurses := true, apart := false }
def LocksAloneSaid : Prop := locksAloneRow.holds Try.pinned (OpenSpec.ofChange locksAloneSpec)

/-- ITS FALSE NEIGHBOUR: 'it returns false'. Refute it at one input. -/
def locksAloneWrong : ChangeSpec := { name := "locksAlone", fn := fun _ => fun
  | [d1, d2, d3, d4] => { results := [.lit (.bool false)], args := [d1, d2, d3, d4] }
  | _ => none }
def LocksAloneWrongFalsely : Prop := locksAloneRow.holds Try.pinned (OpenSpec.ofChange locksAloneWrong)

/-- 'cohortlaw08.LocksKeys': WHATEVER THE INPUT: true; the input reads as it did. -/
def locksKeysSpec : ChangeSpec := { name := "locksKeys", fn := fun _ => fun
  | [d] => { results := [.lit (.bool true)], args := [d] }
  | _ => none }
def locksKeysRow : OpenClaim := { program := "ytfojgghnkjmjhaa", sum := "8a0abf95a227191bfbd79f24a9c96504100ffd50f77a1d7a05c3deb018f00492", func := "cohort/cohortlaw08.LocksKeys", spec := "locksKeys", unfollowed := true, recurses := true, apart := false }
def LocksKeysSaid : Prop := locksKeysRow.holds Try.pinned (OpenSpec.ofChange locksKeysSpec)

/-- ITS FALSE NEIGHBOUR: 'it returns false'. Refute it at one input. -/
def locksKeysWrong : ChangeSpec := { name := "locksKeys", fn := fun _ => fun
  | [d] => { results := [.lit (.bool false)], args := [d] }
  | _ => none }
def LocksKeysWrongFalsely : Prop := locksKeysRow.holds Try.pinned (OpenSpec.ofChange locksKeysWrong)

/-- 'cohortlaw08.LocksTwice': WHATEVER THE INPUT: true; the input reads as it did. -/
def locksTwiceSpec : ChangeSpec := { name := "locksTwice", fn := fun _ => fun
  | [d1, d2, d3, d4] => { results := [.lit (.bool true)], args := [d1, d2, d3, d4] }
  | _ => none }
def locksTwiceRow : OpenClaim := { program := "ytfojgghnkjmjhaa", sum := "8a0abf95a227191bfbd79f24a9c96504100ffd50f77a1d7a05c3deb018f00492", func := "cohort/cohortlaw08.LocksTwice", spec := "locksTwice", unfollowed := true, recurses := true, apart := false }
def LocksTwiceSaid : Prop := locksTwiceRow.holds Try.pinned (OpenSpec.ofChange locksTwiceSpec)

/-- ITS FALSE NEIGHBOUR: 'it returns false'. Refute it at one input. -/
def locksTwiceWrong : ChangeSpec := { name := "locksTwice", fn := fun _ => fun
  | [d1, d2, d3, d4] => { results := [.lit (.bool false)], args := [d1, d2, d3, d4] }
  | _ => none }
def LocksTwiceWrongFalsely : Prop := locksTwiceRow.holds Try.pinned (OpenSpec.ofChange locksTwiceWrong)

/- THE SECOND FORM. 'bulk': how many values and letters a reading holds, each counted each time it is reached (what is shared counts as often as it is met; a slice's spare places count too). A statement '..UptoSaid' is the law's where the arguments, and the package variables that the reading takes, are together of bulk at most 1048576: NARROWER than '..Said'. Prove '..Said' where nothing that the law and all that it calls make is longer than what came in: it says more and counts as full. Else prove '..UptoSaid'. A law counts once. -/
mutual
def uptoBulk {H : Type} : DataW H → Nat
  | .lit (.string bytes) => bytes.length + 1
  | .lit _ => 1
  | .nil => 1
  | .ptr d => uptoBulk d + 1
  | .slice elems spare => uptoBulkAll elems + uptoBulkAll spare + 1
  | .agg parts => uptoBulkAll parts + 1
  | .iface _ d => uptoBulk d + 1
  | .map entries => uptoBulkEntries entries + 1
  | .held _ => 1
def uptoBulkAll {H : Type} : List (DataW H) → Nat
  | [] => 0
  | d :: r => uptoBulk d + uptoBulkAll r
def uptoBulkEntries {H : Type} : List (Lit × DataW H) → Nat
  | [] => 0
  | x :: r => uptoBulkEntry x + uptoBulkEntries r
def uptoBulkEntry {H : Type} : Lit × DataW H → Nat
  | (.string bytes, d) => bytes.length + uptoBulk d + 1
  | (_, d) => uptoBulk d + 1
 end
def uptoSmall : (H : Type) → List (DataW H) → Bool := fun _ ds => decide (uptoBulkAll ds ≤ 1048576)
def OpenSpec.upto (s : _root_.Go.ChangeSpec) : _root_.Go.OpenSpec := { _root_.Go.OpenSpec.ofChange s with cond := some uptoSmall }

/-- 'cohortlaw08.LocksAlone', WHERE WHAT IT READS IS OF BULK AT MOST 1048576: true; the input reads as it did. -/
def locksAloneUptoRow : OpenClaim := { program := "ytfojgghnkjmjhaa", sum := "8a0abf95a227191bfbd79f24a9c96504100ffd50f77a1d7a05c3deb018f00492", func := "cohort/cohortlaw08.LocksAlone", spec := "locksAlone", unfollowed := true, recurses := true, apart := false, narrowed := true }
def LocksAloneUptoSaid : Prop := locksAloneUptoRow.holds Try.pinned (OpenSpec.upto locksAloneSpec)

/-- 'cohortlaw08.LocksKeys', WHERE WHAT IT READS IS OF BULK AT MOST 1048576: true; the input reads as it did. -/
def locksKeysUptoRow : OpenClaim := { program := "ytfojgghnkjmjhaa", sum := "8a0abf95a227191bfbd79f24a9c96504100ffd50f77a1d7a05c3deb018f00492", func := "cohort/cohortlaw08.LocksKeys", spec := "locksKeys", unfollowed := true, recurses := true, apart := false, narrowed := true }
def LocksKeysUptoSaid : Prop := locksKeysUptoRow.holds Try.pinned (OpenSpec.upto locksKeysSpec)

/-- 'cohortlaw08.LocksTwice', WHERE WHAT IT READS IS OF BULK AT MOST 1048576: true; the input reads as it did. -/
def locksTwiceUptoRow : OpenClaim := { program := "ytfojgghnkjmjhaa", sum := "8a0abf95a227191bfbd79f24a9c96504100ffd50f77a1d7a05c3deb018f00492", func := "cohort/cohortlaw08.LocksTwice", spec := "locksTwice", unfollowed := true, recurses := true, apart := false, narrowed := true }
def LocksTwiceUptoSaid : Prop := locksTwiceUptoRow.holds Try.pinned (OpenSpec.upto locksTwiceSpec)

end Rows
end Go.Proofs.Ytfojgghnkjmjhaa
