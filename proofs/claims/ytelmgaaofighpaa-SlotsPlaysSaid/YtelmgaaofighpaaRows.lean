/-
  No cell of these rows narrows 'for every input' (looked for: loops, veiled, ifaces, maps, wideKeys, modest, calm, conditions, laid).
  DERIVED. THE GIVEN ROWS OF THIS SEAT. 6 by the template 'for every input the law returns true; each argument reads behind the call as it read before'; 0 by the template 'total and deterministic' (their statements: YtelmgaaofighpaaTotals.lean).
  GIVEN WITH THE SEED: the statements are not yours to turn. If you find one false, say at which input.
  Laid BY PROGRAM, IN A SANDBOX (cutbox-rows.mjs): the forced cells as the released guide's own fill.sh prints them over the translation af63475dae24f5de… (all of the seat's roots in one cut). By AI agents, Wed Nov 11 2026. No macro, syntax, notation, axiom, sorry.
-/
import Derived.Test.YtelmgaaofighpaaChecked
import GoSem.Claim
import GoSem.ClaimJoined
import GoSem.ClaimMapViews
import Derived.JoinedTies
import Derived.KernelRfl
namespace Go.Proofs.Ytelmgaaofighpaa
/- THE CELL 'sum', in the pinned program and in every row, IS THE sha256 OF THE DUMP (.gsa) THAT YtelmgaaofighpaaProg.lean LOADS. Nothing in Lean hashes anything: it is a label: what it is worth is what the hold of that sum in a sandbox is worth. -/
noncomputable def Try.pinned : Pinned := { name := "ytelmgaaofighpaa", sum := "af63475dae24f5decb704b24c1ebd92b1f7db421fc4708c7919028fa4d421bee", checked := Try.checked }
namespace Rows
def none {H : Type} : Left H := { results := [], args := [] }

/-- 'cohortlaw14.SlotsVotes': WHATEVER THE INPUT: true; the input reads as it did. -/
def slotsVotesSpec : ChangeSpec := { name := "slotsVotes", fn := fun _ => fun
  | [d1, d2, d3] => { results := [.lit (.bool true)], args := [d1, d2, d3] }
  | _ => none }
def slotsVotesRow : OpenClaim := { program := "ytelmgaaofighpaa", sum := "af63475dae24f5decb704b24c1ebd92b1f7db421fc4708c7919028fa4d421bee", func := "cohort/cohortlaw14.SlotsVotes", spec := "slotsVotes", plainKeys := false, apart := false }
def SlotsVotesSaid : Prop := slotsVotesRow.holds Try.pinned (OpenSpec.ofChange slotsVotesSpec)

/-- ITS FALSE NEIGHBOUR: 'it returns false'. Refute it at one input. -/
def slotsVotesWrong : ChangeSpec := { name := "slotsVotes", fn := fun _ => fun
  | [d1, d2, d3] => { results := [.lit (.bool false)], args := [d1, d2, d3] }
  | _ => none }
def SlotsVotesWrongFalsely : Prop := slotsVotesRow.holds Try.pinned (OpenSpec.ofChange slotsVotesWrong)

/-- 'cohortlaw14.SlotsOnce': WHATEVER THE INPUT: true; the input reads as it did. -/
def slotsOnceSpec : ChangeSpec := { name := "slotsOnce", fn := fun _ => fun
  | [d1, d2] => { results := [.lit (.bool true)], args := [d1, d2] }
  | _ => none }
def slotsOnceRow : OpenClaim := { program := "ytelmgaaofighpaa", sum := "af63475dae24f5decb704b24c1ebd92b1f7db421fc4708c7919028fa4d421bee", func := "cohort/cohortlaw14.SlotsOnce", spec := "slotsOnce", plainKeys := false, apart := false }
def SlotsOnceSaid : Prop := slotsOnceRow.holds Try.pinned (OpenSpec.ofChange slotsOnceSpec)

/-- ITS FALSE NEIGHBOUR: 'it returns false'. Refute it at one input. -/
def slotsOnceWrong : ChangeSpec := { name := "slotsOnce", fn := fun _ => fun
  | [d1, d2] => { results := [.lit (.bool false)], args := [d1, d2] }
  | _ => none }
def SlotsOnceWrongFalsely : Prop := slotsOnceRow.holds Try.pinned (OpenSpec.ofChange slotsOnceWrong)

/-- 'cohortlaw14.SlotsCut': WHATEVER THE INPUT: true; the input reads as it did. -/
def slotsCutSpec : ChangeSpec := { name := "slotsCut", fn := fun _ => fun
  | [d1, d2, d3] => { results := [.lit (.bool true)], args := [d1, d2, d3] }
  | _ => none }
def slotsCutRow : OpenClaim := { program := "ytelmgaaofighpaa", sum := "af63475dae24f5decb704b24c1ebd92b1f7db421fc4708c7919028fa4d421bee", func := "cohort/cohortlaw14.SlotsCut", spec := "slotsCut", unfollowed := true, recurses := true, plainKeys := false, apart := false }
def SlotsCutSaid : Prop := slotsCutRow.holds Try.pinned (OpenSpec.ofChange slotsCutSpec)

/-- ITS FALSE NEIGHBOUR: 'it returns false'. Refute it at one input. -/
def slotsCutWrong : ChangeSpec := { name := "slotsCut", fn := fun _ => fun
  | [d1, d2, d3] => { results := [.lit (.bool false)], args := [d1, d2, d3] }
  | _ => none }
def SlotsCutWrongFalsely : Prop := slotsCutRow.holds Try.pinned (OpenSpec.ofChange slotsCutWrong)

/-- 'cohortlaw14.SlotsPlays': WHATEVER THE INPUT: true; the input reads as it did. -/
def slotsPlaysSpec : ChangeSpec := { name := "slotsPlays", fn := fun _ => fun
  | [d] => { results := [.lit (.bool true)], args := [d] }
  | _ => none }
def slotsPlaysRow : OpenClaim := { program := "ytelmgaaofighpaa", sum := "af63475dae24f5decb704b24c1ebd92b1f7db421fc4708c7919028fa4d421bee", func := "cohort/cohortlaw14.SlotsPlays", spec := "slotsPlays", unfollowed := true, recurses := true, plainKeys := false, apart := false }
def SlotsPlaysSaid : Prop := slotsPlaysRow.holds Try.pinned (OpenSpec.ofChange slotsPlaysSpec)

/-- ITS FALSE NEIGHBOUR: 'it returns false'. Refute it at one input. -/
def slotsPlaysWrong : ChangeSpec := { name := "slotsPlays", fn := fun _ => fun
  | [d] => { results := [.lit (.bool false)], args := [d] }
  | _ => none }
def SlotsPlaysWrongFalsely : Prop := slotsPlaysRow.holds Try.pinned (OpenSpec.ofChange slotsPlaysWrong)

/-- 'cohortlaw14.SlotsClosed': WHATEVER THE INPUT: true; the input reads as it did. -/
def slotsClosedSpec : ChangeSpec := { name := "slotsClosed", fn := fun _ => fun
  | [d] => { results := [.lit (.bool true)], args := [d] }
  | _ => none }
def slotsClosedRow : OpenClaim := { program := "ytelmgaaofighpaa", sum := "af63475dae24f5decb704b24c1ebd92b1f7db421fc4708c7919028fa4d421bee", func := "cohort/cohortlaw14.SlotsClosed", spec := "slotsClosed", unfollowed := true, recurses := true, plainKeys := false, apart := false }
def SlotsClosedSaid : Prop := slotsClosedRow.holds Try.pinned (OpenSpec.ofChange slotsClosedSpec)

/-- ITS FALSE NEIGHBOUR: 'it returns false'. Refute it at one input. -/
def slotsClosedWrong : ChangeSpec := { name := "slotsClosed", fn := fun _ => fun
  | [d] => { results := [.lit (.bool false)], args := [d] }
  | _ => none }
def SlotsClosedWrongFalsely : Prop := slotsClosedRow.holds Try.pinned (OpenSpec.ofChange slotsClosedWrong)

/-- 'cohortlaw14.SlotsEnter': WHATEVER THE INPUT: true; the input reads as it did. -/
def slotsEnterSpec : ChangeSpec := { name := "slotsEnter", fn := fun _ => fun
  | [d1, d2] => { results := [.lit (.bool true)], args := [d1, d2] }
  | _ => none }
def slotsEnterRow : OpenClaim := { program := "ytelmgaaofighpaa", sum := "af63475dae24f5decb704b24c1ebd92b1f7db421fc4708c7919028fa4d421bee", func := "cohort/cohortlaw14.SlotsEnter", spec := "slotsEnter", unfollowed := true, recurses := true, plainKeys := false, apart := false }
def SlotsEnterSaid : Prop := slotsEnterRow.holds Try.pinned (OpenSpec.ofChange slotsEnterSpec)

/-- ITS FALSE NEIGHBOUR: 'it returns false'. Refute it at one input. -/
def slotsEnterWrong : ChangeSpec := { name := "slotsEnter", fn := fun _ => fun
  | [d1, d2] => { results := [.lit (.bool false)], args := [d1, d2] }
  | _ => none }
def SlotsEnterWrongFalsely : Prop := slotsEnterRow.holds Try.pinned (OpenSpec.ofChange slotsEnterWrong)

/- THE SECOND FORM. 'bulk': how many values and letters a reading holds, each counted each time it is reached (what is shared counts as often as it is met; a slice's spare places count too). A statement '..UptoSaid' is the law's where the arguments, and the package variables that the reading takes, are together of bulk at most 1048576: NARROWER than '..Said'. Prove '..Said' where nothing that the law and all that it calls make is longer than what came in: it says more and counts as full. Else prove '..UptoSaid'. A law counts once. -/
mutual
def uptoBulk {H : Type} : DataW H → Nat
  | .lit (.string bytes) => bytes.length + 1
  | .lit _ => 1
  | .nil => 1
  | .ptr d => uptoBulk d + 1
  | .slice elems spare => uptoBulkAll elems + uptoBulkAll spare + 1
  | .agg parts => uptoBulkAll parts + 1
  | .iface _ d => uptoBulk d + 1
  | .map entries => uptoBulkEntries entries + 1
  | .held _ => 1
def uptoBulkAll {H : Type} : List (DataW H) → Nat
  | [] => 0
  | d :: r => uptoBulk d + uptoBulkAll r
def uptoBulkEntries {H : Type} : List (Lit × DataW H) → Nat
  | [] => 0
  | x :: r => uptoBulkEntry x + uptoBulkEntries r
def uptoBulkEntry {H : Type} : Lit × DataW H → Nat
  | (.string bytes, d) => bytes.length + uptoBulk d + 1
  | (_, d) => uptoBulk d + 1
 end
def uptoSmall : (H : Type) → List (DataW H) → Bool := fun _ ds => decide (uptoBulkAll ds ≤ 1048576)
def OpenSpec.upto (s : _root_.Go.ChangeSpec) : _root_.Go.OpenSpec := { _root_.Go.OpenSpec.ofChange s with cond := some uptoSmall }

/-- 'cohortlaw14.SlotsVotes', WHERE WHAT IT READS IS OF BULK AT MOST 1048576: true; the input reads as it did. -/
def slotsVotesUptoRow : OpenClaim := { program := "ytelmgaaofighpaa", sum := "af63475dae24f5decb704b24c1ebd92b1f7db421fc4708c7919028fa4d421bee", func := "cohort/cohortlaw14.SlotsVotes", spec := "slotsVotes", plainKeys := false, apart := false, narrowed := true }
def SlotsVotesUptoSaid : Prop := slotsVotesUptoRow.holds Try.pinned (OpenSpec.upto slotsVotesSpec)

/-- 'cohortlaw14.SlotsOnce', WHERE WHAT IT READS IS OF BULK AT MOST 1048576: true; the input reads as it did. -/
def slotsOnceUptoRow : OpenClaim := { program := "ytelmgaaofighpaa", sum := "af63475dae24f5decb704b24c1ebd92b1f7db421fc4708c7919028fa4d421bee", func := "cohort/cohortlaw14.SlotsOnce", spec := "slotsOnce", plainKeys := false, apart := false, narrowed := true }
def SlotsOnceUptoSaid : Prop := slotsOnceUptoRow.holds Try.pinned (OpenSpec.upto slotsOnceSpec)

/-- 'cohortlaw14.SlotsCut', WHERE WHAT IT READS IS OF BULK AT MOST 1048576: true; the input reads as it did. -/
def slotsCutUptoRow : OpenClaim := { program := "ytelmgaaofighpaa", sum := "af63475dae24f5decb704b24c1ebd92b1f7db421fc4708c7919028fa4d421bee", func := "cohort/cohortlaw14.SlotsCut", spec := "slotsCut", unfollowed := true, recurses := true, plainKeys := false, apart := false, narrowed := true }
def SlotsCutUptoSaid : Prop := slotsCutUptoRow.holds Try.pinned (OpenSpec.upto slotsCutSpec)

/-- 'cohortlaw14.SlotsPlays', WHERE WHAT IT READS IS OF BULK AT MOST 1048576: true; the input reads as it did. -/
def slotsPlaysUptoRow : OpenClaim := { program := "ytelmgaaofighpaa", sum := "af63475dae24f5decb704b24c1ebd92b1f7db421fc4708c7919028fa4d421bee", func := "cohort/cohortlaw14.SlotsPlays", spec := "slotsPlays", unfollowed := true, recurses := true, plainKeys := false, apart := false, narrowed := true }
def SlotsPlaysUptoSaid : Prop := slotsPlaysUptoRow.holds Try.pinned (OpenSpec.upto slotsPlaysSpec)

/-- 'cohortlaw14.SlotsClosed', WHERE WHAT IT READS IS OF BULK AT MOST 1048576: true; the input reads as it did. -/
def slotsClosedUptoRow : OpenClaim := { program := "ytelmgaaofighpaa", sum := "af63475dae24f5decb704b24c1ebd92b1f7db421fc4708c7919028fa4d421bee", func := "cohort/cohortlaw14.SlotsClosed", spec := "slotsClosed", unfollowed := true, recurses := true, plainKeys := false, apart := false, narrowed := true }
def SlotsClosedUptoSaid : Prop := slotsClosedUptoRow.holds Try.pinned (OpenSpec.upto slotsClosedSpec)

/-- 'cohortlaw14.SlotsEnter', WHERE WHAT IT READS IS OF BULK AT MOST 1048576: true; the input reads as it did. -/
def slotsEnterUptoRow : OpenClaim := { program := "ytelmgaaofighpaa", sum := "af63475dae24f5decb704b24c1ebd92b1f7db421fc4708c7919028fa4d421bee", func := "cohort/cohortlaw14.SlotsEnter", spec := "slotsEnter", unfollowed := true, recurses := true, plainKeys := false, apart := false, narrowed := true }
def SlotsEnterUptoSaid : Prop := slotsEnterUptoRow.holds Try.pinned (OpenSpec.upto slotsEnterSpec)

end Rows
end Go.Proofs.Ytelmgaaofighpaa
