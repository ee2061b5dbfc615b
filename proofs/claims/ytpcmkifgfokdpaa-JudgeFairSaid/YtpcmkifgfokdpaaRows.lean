/-
  No cell of these rows narrows 'for every input' (looked for: loops, veiled, ifaces, maps, wideKeys, modest, calm, conditions, laid).
  DERIVED. THE GIVEN ROWS OF THIS SEAT. 3 by the template 'for every input the law returns true; each argument reads behind the call as it read before'; 0 by the template 'total and deterministic' (their statements: YtpcmkifgfokdpaaTotals.lean).
  GIVEN WITH THE SEED: the statements are not yours to turn. If you find one false, say at which input.
  Laid BY PROGRAM, IN A SANDBOX (cutbox-rows.mjs): the forced cells as the released guide's own fill.sh prints them over the translation 69a08db209b97ee9… (all of the seat's roots in one cut). By AI agents, Wed Nov 11 2026. No macro, syntax, notation, axiom, sorry.
-/
import Derived.Test.YtpcmkifgfokdpaaChecked
import GoSem.Claim
import GoSem.ClaimJoined
import GoSem.ClaimMapViews
import Derived.JoinedTies
import Derived.KernelRfl
namespace Go.Proofs.Ytpcmkifgfokdpaa
/- THE CELL 'sum', in the pinned program and in every row, IS THE sha256 OF THE DUMP (.gsa) THAT YtpcmkifgfokdpaaProg.lean LOADS. Nothing in Lean hashes anything: it is a label: what it is worth is what the hold of that sum in a sandbox is worth. -/
noncomputable def Try.pinned : Pinned := { name := "ytpcmkifgfokdpaa", sum := "69a08db209b97ee955755025940fee769d5f6ea9dc6eb8913057e8bc7ffa05e3", checked := Try.checked }
namespace Rows
def none {H : Type} : Left H := { results := [], args := [] }

/-- 'cohortlaw23.JudgeFair': WHATEVER THE INPUT: true; the input reads as it did. -/
def judgeFairSpec : ChangeSpec := { name := "judgeFair", fn := fun _ => fun
  | [d1, d2] => { results := [.lit (.bool true)], args := [d1, d2] }
  | _ => none }
def judgeFairRow : OpenClaim := { program := "ytpcmkifgfokdpaa", sum := "69a08db209b97ee955755025940fee769d5f6ea9dc6eb8913057e8bc7ffa05e3", func := "cohort/cohortlaw23.JudgeFair", spec := "judgeFair", unfollowed := true, recurses := true, apart := false }
def JudgeFairSaid : Prop := judgeFairRow.holds Try.pinned (OpenSpec.ofChange judgeFairSpec)

/-- ITS FALSE NEIGHBOUR: 'it returns false'. Refute it at one input. -/
def judgeFairWrong : ChangeSpec := { name := "judgeFair", fn := fun _ => fun
  | [d1, d2] => { results := [.lit (.bool false)], args := [d1, d2] }
  | _ => none }
def JudgeFairWrongFalsely : Prop := judgeFairRow.holds Try.pinned (OpenSpec.ofChange judgeFairWrong)

/-- 'cohortlaw23.JudgeOrder': WHATEVER THE INPUT: true; the input reads as it did. -/
def judgeOrderSpec : ChangeSpec := { name := "judgeOrder", fn := fun _ => fun
  | [d] => { results := [.lit (.bool true)], args := [d] }
  | _ => none }
def judgeOrderRow : OpenClaim := { program := "ytpcmkifgfokdpaa", sum := "69a08db209b97ee955755025940fee769d5f6ea9dc6eb8913057e8bc7ffa05e3", func := "cohort/cohortlaw23.JudgeOrder", spec := "judgeOrder", unfollowed := true, recurses := true, apart := false }
def JudgeOrderSaid : Prop := judgeOrderRow.holds Try.pinned (OpenSpec.ofChange judgeOrderSpec)

/-- ITS FALSE NEIGHBOUR: 'it returns false'. Refute it at one input. -/
def judgeOrderWrong : ChangeSpec := { name := "judgeOrder", fn := fun _ => fun
  | [d] => { results := [.lit (.bool false)], args := [d] }
  | _ => none }
def JudgeOrderWrongFalsely : Prop := judgeOrderRow.holds Try.pinned (OpenSpec.ofChange judgeOrderWrong)

/-- 'cohortlaw23.JudgeFewer': WHATEVER THE INPUT: true; the input reads as it did. -/
def judgeFewerSpec : ChangeSpec := { name := "judgeFewer", fn := fun _ => fun
  | [d1, d2] => { results := [.lit (.bool true)], args := [d1, d2] }
  | _ => none }
def judgeFewerRow : OpenClaim := { program := "ytpcmkifgfokdpaa", sum := "69a08db209b97ee955755025940fee769d5f6ea9dc6eb8913057e8bc7ffa05e3", func := "cohort/cohortlaw23.JudgeFewer", spec := "judgeFewer", unfollowed := true, recurses := true, apart := false }
def JudgeFewerSaid : Prop := judgeFewerRow.holds Try.pinned (OpenSpec.ofChange judgeFewerSpec)

/-- ITS FALSE NEIGHBOUR: 'it returns false'. Refute it at one input. -/
def judgeFewerWrong : ChangeSpec := { name := "judgeFewer", fn := fun _ => fun
  | [d1, d2] => { results := [.lit (.bool false)], args := [d1, d2] }
  | _ => none }
def JudgeFewerWrongFalsely : Prop := judgeFewerRow.holds Try.pinned (OpenSpec.ofChange judgeFewerWrong)

/- THE SECOND FORM. 'bulk': how many values and letters a reading holds, each counted each time it is reached (what is shared counts as often as it is met; a slice's spare places count too). A statement '..UptoSaid' is the law's where the arguments, and the package variables that the reading takes, are together of bulk at most 1048576: NARROWER than '..Said'. Prove '..Said' where nothing that the law and all that it calls make is longer than what came in: it says more and counts as full. Else prove '..UptoSaid'. A law counts once. -/
mutual
def uptoBulk {H : Type} : DataW H → Nat
  | .lit (.string bytes) => bytes.length + 1
  | .lit _ => 1
  | .nil => 1
  | .ptr d => uptoBulk d + 1
  | .slice elems spare => uptoBulkAll elems + uptoBulkAll spare + 1
  | .agg parts => uptoBulkAll parts + 1
  | .iface _ d => uptoBulk d + 1
  | .map entries => uptoBulkEntries entries + 1
  | .held _ => 1
def uptoBulkAll {H : Type} : List (DataW H) → Nat
  | [] => 0
  | d :: r => uptoBulk d + uptoBulkAll r
def uptoBulkEntries {H : Type} : List (Lit × DataW H) → Nat
  | [] => 0
  | x :: r => uptoBulkEntry x + uptoBulkEntries r
def uptoBulkEntry {H : Type} : Lit × DataW H → Nat
  | (.string bytes, d) => bytes.length + uptoBulk d + 1
  | (_, d) => uptoBulk d + 1
 end
def uptoSmall : (H : Type) → List (DataW H) → Bool := fun _ ds => decide (uptoBulkAll ds ≤ 1048576)
def OpenSpec.upto (s : _root_.Go.ChangeSpec) : _root_.Go.OpenSpec := { _root_.Go.OpenSpec.ofChange s with cond := some uptoSmall }

/-- 'cohortlaw23.JudgeFair', WHERE WHAT IT READS IS OF BULK AT MOST 1048576: true; the input reads as it did. -/
def judgeFairUptoRow : OpenClaim := { program := "ytpcmkifgfokdpaa", sum := "69a08db209b97ee955755025940fee769d5f6ea9dc6eb8913057e8bc7ffa05e3", func := "cohort/cohortlaw23.JudgeFair", spec := "judgeFair", unfollowed := true, recurses := true, apart := false, narrowed := true }
def JudgeFairUptoSaid : Prop := judgeFairUptoRow.holds Try.pinned (OpenSpec.upto judgeFairSpec)

/-- 'cohortlaw23.JudgeOrder', WHERE WHAT IT READS IS OF BULK AT MOST 1048576: true; the input reads as it did. -/
def judgeOrderUptoRow : OpenClaim := { program := "ytpcmkifgfokdpaa", sum := "69a08db209b97ee955755025940fee769d5f6ea9dc6eb8913057e8bc7ffa05e3", func := "cohort/cohortlaw23.JudgeOrder", spec := "judgeOrder", unfollowed := true, recurses := true, apart := false, narrowed := true }
def JudgeOrderUptoSaid : Prop := judgeOrderUptoRow.holds Try.pinned (OpenSpec.upto judgeOrderSpec)

/-- 'cohortlaw23.JudgeFewer', WHERE WHAT IT READS IS OF BULK AT MOST 1048576: true; the input reads as it did. -/
def judgeFewerUptoRow : OpenClaim := { program := "ytpcmkifgfokdpaa", sum := "69a08db209b97ee955755025940fee769d5f6ea9dc6eb8913057e8bc7ffa05e3", func := "cohort/cohortlaw23.JudgeFewer", spec := "judgeFewer", unfollowed := true, recurses := true, apart := false, narrowed := true }
def JudgeFewerUptoSaid : Prop := judgeFewerUptoRow.holds Try.pinned (OpenSpec.upto judgeFewerSpec)

end Rows
end Go.Proofs.Ytpcmkifgfokdpaa
