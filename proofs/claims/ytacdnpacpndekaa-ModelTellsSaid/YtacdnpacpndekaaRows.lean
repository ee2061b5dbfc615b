/-
  No cell of these rows narrows 'for every input' (looked for: loops, veiled, ifaces, maps, wideKeys, modest, calm, conditions, laid).
  DERIVED. THE GIVEN ROWS OF THIS SEAT. 5 by the template 'for every input the law returns true; each argument reads behind the call as it read before'; 0 by the template 'total and deterministic' (their statements: YtacdnpacpndekaaTotals.lean).
  GIVEN WITH THE SEED: the statements are not yours to turn. If you find one false, say at which input.
  Laid BY PROGRAM, IN A SANDBOX (cutbox-rows.mjs): the forced cells as the released guide's own fill.sh prints them over the translation 126715bd92942378… (all of the seat's roots in one cut). By AI agents, Wed Nov 11 2026. No macro, syntax, notation, axiom, sorry.
-/
import Derived.Test.YtacdnpacpndekaaChecked
import GoSem.Claim
import GoSem.ClaimJoined
import GoSem.ClaimMapViews
import Derived.JoinedTies
import Derived.KernelRfl
namespace Go.Proofs.Ytacdnpacpndekaa
/- THE CELL 'sum', in the pinned program and in every row, IS THE sha256 OF THE DUMP (.gsa) THAT YtacdnpacpndekaaProg.lean LOADS. Nothing in Lean hashes anything: it is a label: what it is worth is what the hold of that sum in a sandbox is worth. -/
noncomputable def Try.pinned : Pinned := { name := "ytacdnpacpndekaa", sum := "126715bd929423781287b8793ea0a9642da9687fe8c274b2ddb71a22a6d8f780", checked := Try.checked }
namespace Rows
def none {H : Type} : Left H := { results := [], args := [] }

/-- 'cohortlaw22.ModelTells': WHATEVER THE INPUT: true; the input reads as it did. -/
def modelTellsSpec : ChangeSpec := { name := "modelTells", fn := fun _ => fun
  | [d1, d2, d3] => { results := [.lit (.bool true)], args := [d1, d2, d3] }
  | _ => none }
def modelTellsRow : OpenClaim := { program := "ytacdnpacpndekaa", sum := "126715bd929423781287b8793ea0a9642da9687fe8c274b2ddb71a22a6d8f780", func := "cohort/cohortlaw22.ModelTells", spec := "modelTells", unfollowed := true, recurses := true, apart := false }
def ModelTellsSaid : Prop := modelTellsRow.holds Try.pinned (OpenSpec.ofChange modelTellsSpec)

/-- ITS FALSE NEIGHBOUR: 'it returns false'. Refute it at one input. -/
def modelTellsWrong : ChangeSpec := { name := "modelTells", fn := fun _ => fun
  | [d1, d2, d3] => { results := [.lit (.bool false)], args := [d1, d2, d3] }
  | _ => none }
def ModelTellsWrongFalsely : Prop := modelTellsRow.holds Try.pinned (OpenSpec.ofChange modelTellsWrong)

/-- 'cohortlaw22.ModelVersions': WHATEVER THE INPUT: true; the input reads as it did. -/
def modelVersionsSpec : ChangeSpec := { name := "modelVersions", fn := fun _ => fun
  | [d1, d2] => { results := [.lit (.bool true)], args := [d1, d2] }
  | _ => none }
def modelVersionsRow : OpenClaim := { program := "ytacdnpacpndekaa", sum := "126715bd929423781287b8793ea0a9642da9687fe8c274b2ddb71a22a6d8f780", func := "cohort/cohortlaw22.ModelVersions", spec := "modelVersions", unfollowed := true, recurses := true, apart := false }
def ModelVersionsSaid : Prop := modelVersionsRow.holds Try.pinned (OpenSpec.ofChange modelVersionsSpec)

/-- ITS FALSE NEIGHBOUR: 'it returns false'. Refute it at one input. -/
def modelVersionsWrong : ChangeSpec := { name := "modelVersions", fn := fun _ => fun
  | [d1, d2] => { results := [.lit (.bool false)], args := [d1, d2] }
  | _ => none }
def ModelVersionsWrongFalsely : Prop := modelVersionsRow.holds Try.pinned (OpenSpec.ofChange modelVersionsWrong)

/-- 'cohortlaw22.ModelPrefix': WHATEVER THE INPUT: true; the input reads as it did. -/
def modelPrefixSpec : ChangeSpec := { name := "modelPrefix", fn := fun _ => fun
  | [d1, d2, d3] => { results := [.lit (.bool true)], args := [d1, d2, d3] }
  | _ => none }
def modelPrefixRow : OpenClaim := { program := "ytacdnpacpndekaa", sum := "126715bd929423781287b8793ea0a9642da9687fe8c274b2ddb71a22a6d8f780", func := "cohort/cohortlaw22.ModelPrefix", spec := "modelPrefix", unfollowed := true, recurses := true, apart := false }
def ModelPrefixSaid : Prop := modelPrefixRow.holds Try.pinned (OpenSpec.ofChange modelPrefixSpec)

/-- ITS FALSE NEIGHBOUR: 'it returns false'. Refute it at one input. -/
def modelPrefixWrong : ChangeSpec := { name := "modelPrefix", fn := fun _ => fun
  | [d1, d2, d3] => { results := [.lit (.bool false)], args := [d1, d2, d3] }
  | _ => none }
def ModelPrefixWrongFalsely : Prop := modelPrefixRow.holds Try.pinned (OpenSpec.ofChange modelPrefixWrong)

/-- 'cohortlaw22.ModelBlind': WHATEVER THE INPUT: true; the input reads as it did. -/
def modelBlindSpec : ChangeSpec := { name := "modelBlind", fn := fun _ => fun
  | [d] => { results := [.lit (.bool true)], args := [d] }
  | _ => none }
def modelBlindRow : OpenClaim := { program := "ytacdnpacpndekaa", sum := "126715bd929423781287b8793ea0a9642da9687fe8c274b2ddb71a22a6d8f780", func := "cohort/cohortlaw22.ModelBlind", spec := "modelBlind", unfollowed := true, recurses := true, apart := false }
def ModelBlindSaid : Prop := modelBlindRow.holds Try.pinned (OpenSpec.ofChange modelBlindSpec)

/-- ITS FALSE NEIGHBOUR: 'it returns false'. Refute it at one input. -/
def modelBlindWrong : ChangeSpec := { name := "modelBlind", fn := fun _ => fun
  | [d] => { results := [.lit (.bool false)], args := [d] }
  | _ => none }
def ModelBlindWrongFalsely : Prop := modelBlindRow.holds Try.pinned (OpenSpec.ofChange modelBlindWrong)

/-- 'cohortlaw22.ModelKeys': WHATEVER THE INPUT: true; the input reads as it did. -/
def modelKeysSpec : ChangeSpec := { name := "modelKeys", fn := fun _ => fun
  | [d1, d2] => { results := [.lit (.bool true)], args := [d1, d2] }
  | _ => none }
def modelKeysRow : OpenClaim := { program := "ytacdnpacpndekaa", sum := "126715bd929423781287b8793ea0a9642da9687fe8c274b2ddb71a22a6d8f780", func := "cohort/cohortlaw22.ModelKeys", spec := "modelKeys", unfollowed := true, recurses := true, apart := false }
def ModelKeysSaid : Prop := modelKeysRow.holds Try.pinned (OpenSpec.ofChange modelKeysSpec)

/-- ITS FALSE NEIGHBOUR: 'it returns false'. Refute it at one input. -/
def modelKeysWrong : ChangeSpec := { name := "modelKeys", fn := fun _ => fun
  | [d1, d2] => { results := [.lit (.bool false)], args := [d1, d2] }
  | _ => none }
def ModelKeysWrongFalsely : Prop := modelKeysRow.holds Try.pinned (OpenSpec.ofChange modelKeysWrong)

/- THE SECOND FORM. 'bulk': how many values and letters a reading holds, each counted each time it is reached (what is shared counts as often as it is met; a slice's spare places count too). A statement '..UptoSaid' is the law's where the arguments, and the package variables that the reading takes, are together of bulk at most 1048576: NARROWER than '..Said'. Prove '..Said' where nothing that the law and all that it calls make is longer than what came in: it says more and counts as full. Else prove '..UptoSaid'. A law counts once. -/
mutual
def uptoBulk {H : Type} : DataW H → Nat
  | .lit (.string bytes) => bytes.length + 1
  | .lit _ => 1
  | .nil => 1
  | .ptr d => uptoBulk d + 1
  | .slice elems spare => uptoBulkAll elems + uptoBulkAll spare + 1
  | .agg parts => uptoBulkAll parts + 1
  | .iface _ d => uptoBulk d + 1
  | .map entries => uptoBulkEntries entries + 1
  | .held _ => 1
def uptoBulkAll {H : Type} : List (DataW H) → Nat
  | [] => 0
  | d :: r => uptoBulk d + uptoBulkAll r
def uptoBulkEntries {H : Type} : List (Lit × DataW H) → Nat
  | [] => 0
  | x :: r => uptoBulkEntry x + uptoBulkEntries r
def uptoBulkEntry {H : Type} : Lit × DataW H → Nat
  | (.string bytes, d) => bytes.length + uptoBulk d + 1
  | (_, d) => uptoBulk d + 1
 end
def uptoSmall : (H : Type) → List (DataW H) → Bool := fun _ ds => decide (uptoBulkAll ds ≤ 1048576)
def OpenSpec.upto (s : _root_.Go.ChangeSpec) : _root_.Go.OpenSpec := { _root_.Go.OpenSpec.ofChange s with cond := some uptoSmall }

/-- 'cohortlaw22.ModelTells', WHERE WHAT IT READS IS OF BULK AT MOST 1048576: true; the input reads as it did. -/
def modelTellsUptoRow : OpenClaim := { program := "ytacdnpacpndekaa", sum := "126715bd929423781287b8793ea0a9642da9687fe8c274b2ddb71a22a6d8f780", func := "cohort/cohortlaw22.ModelTells", spec := "modelTells", unfollowed := true, recurses := true, apart := false, narrowed := true }
def ModelTellsUptoSaid : Prop := modelTellsUptoRow.holds Try.pinned (OpenSpec.upto modelTellsSpec)

/-- 'cohortlaw22.ModelVersions', WHERE WHAT IT READS IS OF BULK AT MOST 1048576: true; the input reads as it did. -/
def modelVersionsUptoRow : OpenClaim := { program := "ytacdnpacpndekaa", sum := "126715bd929423781287b8793ea0a9642da9687fe8c274b2ddb71a22a6d8f780", func := "cohort/cohortlaw22.ModelVersions", spec := "modelVersions", unfollowed := true, recurses := true, apart := false, narrowed := true }
def ModelVersionsUptoSaid : Prop := modelVersionsUptoRow.holds Try.pinned (OpenSpec.upto modelVersionsSpec)

/-- 'cohortlaw22.ModelPrefix', WHERE WHAT IT READS IS OF BULK AT MOST 1048576: true; the input reads as it did. -/
def modelPrefixUptoRow : OpenClaim := { program := "ytacdnpacpndekaa", sum := "126715bd929423781287b8793ea0a9642da9687fe8c274b2ddb71a22a6d8f780", func := "cohort/cohortlaw22.ModelPrefix", spec := "modelPrefix", unfollowed := true, recurses := true, apart := false, narrowed := true }
def ModelPrefixUptoSaid : Prop := modelPrefixUptoRow.holds Try.pinned (OpenSpec.upto modelPrefixSpec)

/-- 'cohortlaw22.ModelBlind', WHERE WHAT IT READS IS OF BULK AT MOST 1048576: true; the input reads as it did. -/
def modelBlindUptoRow : OpenClaim := { program := "ytacdnpacpndekaa", sum := "126715bd929423781287b8793ea0a9642da9687fe8c274b2ddb71a22a6d8f780", func := "cohort/cohortlaw22.ModelBlind", spec := "modelBlind", unfollowed := true, recurses := true, apart := false, narrowed := true }
def ModelBlindUptoSaid : Prop := modelBlindUptoRow.holds Try.pinned (OpenSpec.upto modelBlindSpec)

/-- 'cohortlaw22.ModelKeys', WHERE WHAT IT READS IS OF BULK AT MOST 1048576: true; the input reads as it did. -/
def modelKeysUptoRow : OpenClaim := { program := "ytacdnpacpndekaa", sum := "126715bd929423781287b8793ea0a9642da9687fe8c274b2ddb71a22a6d8f780", func := "cohort/cohortlaw22.ModelKeys", spec := "modelKeys", unfollowed := true, recurses := true, apart := false, narrowed := true }
def ModelKeysUptoSaid : Prop := modelKeysUptoRow.holds Try.pinned (OpenSpec.upto modelKeysSpec)

end Rows
end Go.Proofs.Ytacdnpacpndekaa
