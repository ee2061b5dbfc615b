/-
  No cell of these rows narrows 'for every input' (looked for: loops, veiled, ifaces, maps, wideKeys, modest, calm, conditions, laid).
  DERIVED. THE GIVEN ROWS OF THIS SEAT. 5 by the template 'for every input the law returns true; each argument reads behind the call as it read before'; 0 by the template 'total and deterministic' (their statements: YtlepjjcnlcnnfaaTotals.lean).
  GIVEN WITH THE SEED: the statements are not yours to turn. If you find one false, say at which input.
  Laid BY PROGRAM, IN A SANDBOX (cutbox-rows.mjs): the forced cells as the released guide's own fill.sh prints them over the translation 6cf44e12eed56507… (all of the seat's roots in one cut). By AI agents, Wed Nov 11 2026. No macro, syntax, notation, axiom, sorry.
-/
import Derived.Test.YtlepjjcnlcnnfaaChecked
import GoSem.Claim
import GoSem.ClaimJoined
import GoSem.ClaimMapViews
import Derived.JoinedTies
import Derived.KernelRfl
namespace Go.Proofs.Ytlepjjcnlcnnfaa
/- THE CELL 'sum', in the pinned program and in every row, IS THE sha256 OF THE DUMP (.gsa) THAT YtlepjjcnlcnnfaaProg.lean LOADS. Nothing in Lean hashes anything: it is a label: what it is worth is what the hold of that sum in a sandbox is worth. -/
noncomputable def Try.pinned : Pinned := { name := "ytlepjjcnlcnnfaa", sum := "6cf44e12eed565077976afe066f9f1a90d3eea581b636107116b2f1b65368a5c", checked := Try.checked }
namespace Rows
def none {H : Type} : Left H := { results := [], args := [] }

/-- 'cohortlaw06.MerkleNothing': WHATEVER THE INPUT: true; the input reads as it did. -/
def merkleNothingSpec : ChangeSpec := { name := "merkleNothing", fn := fun _ => fun
  | [d1, d2] => { results := [.lit (.bool true)], args := [d1, d2] }
  | _ => none }
def merkleNothingRow : OpenClaim := { program := "ytlepjjcnlcnnfaa", sum := "6cf44e12eed565077976afe066f9f1a90d3eea581b636107116b2f1b65368a5c", func := "cohort/cohortlaw06.MerkleNothing", spec := "merkleNothing", unfollowed := true, recurses := true, apart := false }
def MerkleNothingSaid : Prop := merkleNothingRow.holds Try.pinned (OpenSpec.ofChange merkleNothingSpec)

/-- ITS FALSE NEIGHBOUR: 'it returns false'. Refute it at one input. -/
def merkleNothingWrong : ChangeSpec := { name := "merkleNothing", fn := fun _ => fun
  | [d1, d2] => { results := [.lit (.bool false)], args := [d1, d2] }
  | _ => none }
def MerkleNothingWrongFalsely : Prop := merkleNothingRow.holds Try.pinned (OpenSpec.ofChange merkleNothingWrong)

/-- 'cohortlaw06.MerkleMade': WHATEVER THE INPUT: true; the input reads as it did. -/
def merkleMadeSpec : ChangeSpec := { name := "merkleMade", fn := fun _ => fun
  | [d1, d2, d3, d4] => { results := [.lit (.bool true)], args := [d1, d2, d3, d4] }
  | _ => none }
def merkleMadeRow : OpenClaim := { program := "ytlepjjcnlcnnfaa", sum := "6cf44e12eed565077976afe066f9f1a90d3eea581b636107116b2f1b65368a5c", func := "cohort/cohortlaw06.MerkleMade", spec := "merkleMade", unfollowed := true, recurses := true, apart := false }
def MerkleMadeSaid : Prop := merkleMadeRow.holds Try.pinned (OpenSpec.ofChange merkleMadeSpec)

/-- ITS FALSE NEIGHBOUR: 'it returns false'. Refute it at one input. -/
def merkleMadeWrong : ChangeSpec := { name := "merkleMade", fn := fun _ => fun
  | [d1, d2, d3, d4] => { results := [.lit (.bool false)], args := [d1, d2, d3, d4] }
  | _ => none }
def MerkleMadeWrongFalsely : Prop := merkleMadeRow.holds Try.pinned (OpenSpec.ofChange merkleMadeWrong)

/-- 'cohortlaw06.MerkleHas': WHATEVER THE INPUT: true; the input reads as it did. -/
def merkleHasSpec : ChangeSpec := { name := "merkleHas", fn := fun _ => fun
  | [d1, d2, d3] => { results := [.lit (.bool true)], args := [d1, d2, d3] }
  | _ => none }
def merkleHasRow : OpenClaim := { program := "ytlepjjcnlcnnfaa", sum := "6cf44e12eed565077976afe066f9f1a90d3eea581b636107116b2f1b65368a5c", func := "cohort/cohortlaw06.MerkleHas", spec := "merkleHas", unfollowed := true, recurses := true, apart := false }
def MerkleHasSaid : Prop := merkleHasRow.holds Try.pinned (OpenSpec.ofChange merkleHasSpec)

/-- ITS FALSE NEIGHBOUR: 'it returns false'. Refute it at one input. -/
def merkleHasWrong : ChangeSpec := { name := "merkleHas", fn := fun _ => fun
  | [d1, d2, d3] => { results := [.lit (.bool false)], args := [d1, d2, d3] }
  | _ => none }
def MerkleHasWrongFalsely : Prop := merkleHasRow.holds Try.pinned (OpenSpec.ofChange merkleHasWrong)

/-- 'cohortlaw06.MerkleSizes': WHATEVER THE INPUT: true; the input reads as it did. -/
def merkleSizesSpec : ChangeSpec := { name := "merkleSizes", fn := fun _ => fun
  | [d1, d2, d3] => { results := [.lit (.bool true)], args := [d1, d2, d3] }
  | _ => none }
def merkleSizesRow : OpenClaim := { program := "ytlepjjcnlcnnfaa", sum := "6cf44e12eed565077976afe066f9f1a90d3eea581b636107116b2f1b65368a5c", func := "cohort/cohortlaw06.MerkleSizes", spec := "merkleSizes", unfollowed := true, recurses := true, apart := false }
def MerkleSizesSaid : Prop := merkleSizesRow.holds Try.pinned (OpenSpec.ofChange merkleSizesSpec)

/-- ITS FALSE NEIGHBOUR: 'it returns false'. Refute it at one input. -/
def merkleSizesWrong : ChangeSpec := { name := "merkleSizes", fn := fun _ => fun
  | [d1, d2, d3] => { results := [.lit (.bool false)], args := [d1, d2, d3] }
  | _ => none }
def MerkleSizesWrongFalsely : Prop := merkleSizesRow.holds Try.pinned (OpenSpec.ofChange merkleSizesWrong)

/-- 'cohortlaw06.MerkleRange': WHATEVER THE INPUT: true; the input reads as it did. -/
def merkleRangeSpec : ChangeSpec := { name := "merkleRange", fn := fun _ => fun
  | [d1, d2, d3, d4] => { results := [.lit (.bool true)], args := [d1, d2, d3, d4] }
  | _ => none }
def merkleRangeRow : OpenClaim := { program := "ytlepjjcnlcnnfaa", sum := "6cf44e12eed565077976afe066f9f1a90d3eea581b636107116b2f1b65368a5c", func := "cohort/cohortlaw06.MerkleRange", spec := "merkleRange", unfollowed := true, recurses := true, apart := false }
def MerkleRangeSaid : Prop := merkleRangeRow.holds Try.pinned (OpenSpec.ofChange merkleRangeSpec)

/-- ITS FALSE NEIGHBOUR: 'it returns false'. Refute it at one input. -/
def merkleRangeWrong : ChangeSpec := { name := "merkleRange", fn := fun _ => fun
  | [d1, d2, d3, d4] => { results := [.lit (.bool false)], args := [d1, d2, d3, d4] }
  | _ => none }
def MerkleRangeWrongFalsely : Prop := merkleRangeRow.holds Try.pinned (OpenSpec.ofChange merkleRangeWrong)

/- THE SECOND FORM. 'bulk': how many values and letters a reading holds, each counted each time it is reached (what is shared counts as often as it is met; a slice's spare places count too). A statement '..UptoSaid' is the law's where the arguments, and the package variables that the reading takes, are together of bulk at most 1048576: NARROWER than '..Said'. Prove '..Said' where nothing that the law and all that it calls make is longer than what came in: it says more and counts as full. Else prove '..UptoSaid'. A law counts once. -/
mutual
def uptoBulk {H : Type} : DataW H → Nat
  | .lit (.string bytes) => bytes.length + 1
  | .lit _ => 1
  | .nil => 1
  | .ptr d => uptoBulk d + 1
  | .slice elems spare => uptoBulkAll elems + uptoBulkAll spare + 1
  | .agg parts => uptoBulkAll parts + 1
  | .iface _ d => uptoBulk d + 1
  | .map entries => uptoBulkEntries entries + 1
  | .held _ => 1
def uptoBulkAll {H : Type} : List (DataW H) → Nat
  | [] => 0
  | d :: r => uptoBulk d + uptoBulkAll r
def uptoBulkEntries {H : Type} : List (Lit × DataW H) → Nat
  | [] => 0
  | x :: r => uptoBulkEntry x + uptoBulkEntries r
def uptoBulkEntry {H : Type} : Lit × DataW H → Nat
  | (.string bytes, d) => bytes.length + uptoBulk d + 1
  | (_, d) => uptoBulk d + 1
 end
def uptoSmall : (H : Type) → List (DataW H) → Bool := fun _ ds => decide (uptoBulkAll ds ≤ 1048576)
def OpenSpec.upto (s : _root_.Go.ChangeSpec) : _root_.Go.OpenSpec := { _root_.Go.OpenSpec.ofChange s with cond := some uptoSmall }

/-- 'cohortlaw06.MerkleNothing', WHERE WHAT IT READS IS OF BULK AT MOST 1048576: true; the input reads as it did. -/
def merkleNothingUptoRow : OpenClaim := { program := "ytlepjjcnlcnnfaa", sum := "6cf44e12eed565077976afe066f9f1a90d3eea581b636107116b2f1b65368a5c", func := "cohort/cohortlaw06.MerkleNothing", spec := "merkleNothing", unfollowed := true, recurses := true, apart := false, narrowed := true }
def MerkleNothingUptoSaid : Prop := merkleNothingUptoRow.holds Try.pinned (OpenSpec.upto merkleNothingSpec)

/-- 'cohortlaw06.MerkleMade', WHERE WHAT IT READS IS OF BULK AT MOST 1048576: true; the input reads as it did. -/
def merkleMadeUptoRow : OpenClaim := { program := "ytlepjjcnlcnnfaa", sum := "6cf44e12eed565077976afe066f9f1a90d3eea581b636107116b2f1b65368a5c", func := "cohort/cohortlaw06.MerkleMade", spec := "merkleMade", unfollowed := true, recurses := true, apart := false, narrowed := true }
def MerkleMadeUptoSaid : Prop := merkleMadeUptoRow.holds Try.pinned (OpenSpec.upto merkleMadeSpec)

/-- 'cohortlaw06.MerkleHas', WHERE WHAT IT READS IS OF BULK AT MOST 1048576: true; the input reads as it did. -/
def merkleHasUptoRow : OpenClaim := { program := "ytlepjjcnlcnnfaa", sum := "6cf44e12eed565077976afe066f9f1a90d3eea581b636107116b2f1b65368a5c", func := "cohort/cohortlaw06.MerkleHas", spec := "merkleHas", unfollowed := true, recurses := true, apart := false, narrowed := true }
def MerkleHasUptoSaid : Prop := merkleHasUptoRow.holds Try.pinned (OpenSpec.upto merkleHasSpec)

/-- 'cohortlaw06.MerkleSizes', WHERE WHAT IT READS IS OF BULK AT MOST 1048576: true; the input reads as it did. -/
def merkleSizesUptoRow : OpenClaim := { program := "ytlepjjcnlcnnfaa", sum := "6cf44e12eed565077976afe066f9f1a90d3eea581b636107116b2f1b65368a5c", func := "cohort/cohortlaw06.MerkleSizes", spec := "merkleSizes", unfollowed := true, recurses := true, apart := false, narrowed := true }
def MerkleSizesUptoSaid : Prop := merkleSizesUptoRow.holds Try.pinned (OpenSpec.upto merkleSizesSpec)

/-- 'cohortlaw06.MerkleRange', WHERE WHAT IT READS IS OF BULK AT MOST 1048576: true; the input reads as it did. -/
def merkleRangeUptoRow : OpenClaim := { program := "ytlepjjcnlcnnfaa", sum := "6cf44e12eed565077976afe066f9f1a90d3eea581b636107116b2f1b65368a5c", func := "cohort/cohortlaw06.MerkleRange", spec := "merkleRange", unfollowed := true, recurses := true, apart := false, narrowed := true }
def MerkleRangeUptoSaid : Prop := merkleRangeUptoRow.holds Try.pinned (OpenSpec.upto merkleRangeSpec)

end Rows
end Go.Proofs.Ytlepjjcnlcnnfaa
