/-
  NARROWER THAN 'FOR EVERY INPUT', by the rows' own cells (each row's printed sentence says how): TxnBack: laid · TxnWrites: laid · TxnFits: laid · TxnApart: laid · TxnKeys: laid.
  DERIVED. THE GIVEN ROWS OF THIS SEAT. 5 by the template 'for every input the law returns true; each argument reads behind the call as it read before'; 0 by the template 'total and deterministic' (their statements: YtaifmfnmgnmgbaaGreatDoorTotals.lean).
  GIVEN WITH THE SEED: the statements are not yours to turn. If you find one false, say at which input.
  Laid BY PROGRAM, IN A SANDBOX (cutbox-rows.mjs): the forced cells as the released guide's own fill.sh prints them over the translation 8fc53e7483668496… (all of the seat's roots in one cut). By AI agents, Wed Nov 11 2026. No macro, syntax, notation, axiom, sorry.
-/
import Derived.Test.YtaifmfnmgnmgbaaGreatDoorChecked
import GoSem.Claim
import GoSem.ClaimJoined
import GoSem.ClaimMapViews
import Derived.JoinedTies
import Derived.KernelRfl
namespace Go.Proofs.YtaifmfnmgnmgbaaGreatDoor
/- THE CELL 'sum', in the pinned program and in every row, IS THE sha256 OF THE DUMP (.gsa) THAT YtaifmfnmgnmgbaaGreatDoorProg.lean LOADS. Nothing in Lean hashes anything: it is a label: what it is worth is what the hold of that sum in a sandbox is worth. -/
noncomputable def Tryz.pinned : Pinned := { name := "ytaifmfnmgnmgbaagreatdoor", sum := "8fc53e74836684960d0b0299beddb234f35268c184829884b08abbdbfb37e23b", checked := Tryz.checked }
namespace Rows
def none {H : Type} : Left H := { results := [], args := [] }

/- WHAT THE LISTED PACKAGE-LEVEL VARIABLES READ AS WHEN THE CALL BEGINS. Each datum BY PROGRAM (the guide's laid-datum.mjs) off the statement by which the dump's own 'gosem.cut.vars' lays the variable. In a bare row this is a premise. The card (YtaifmfnmgnmgbaaGreatDoorCards.lean) ties it to the program's text. -/
def laid_errors_errorType {H : Type} : DataW H := .iface "internal/reflectlite.rtype" (.agg [.ptr (.lit (.string [101, 114, 114, 111, 114]))])

/-- 'cohortlaw10.TxnBack': WHATEVER THE INPUT: true; the input reads as it did. -/
def txnBackSpec : ChangeSpec := { name := "txnBack", fn := fun _ => fun
  | [d1, d2] => { results := [.lit (.bool true)], args := [d1, d2] }
  | _ => none }
def txnBackRow : OpenClaim := { program := "ytaifmfnmgnmgbaagreatdoor", sum := "8fc53e74836684960d0b0299beddb234f35268c184829884b08abbdbfb37e23b", func := "cohort/cohortlaw10.TxnBack", spec := "txnBack", inPlace := ["internal/bytealg.abigen_runtime_cmpstring", "internal/reflectlite.ValueOf", "(internal/reflectlite.Value).Type", "(internal/reflectlite.Value).IsNil", "internal/reflectlite.TypeOf", "(internal/reflectlite.Value).Elem", "(internal/reflectlite.Value).Set"], unfollowed := true, recurses := true, named := ["errors.errorType"], apart := false, laid := [("errors.errorType", laid_errors_errorType)] }
def TxnBackSaid : Prop := txnBackRow.holds Tryz.pinned (OpenSpec.ofChange txnBackSpec)

/-- ITS FALSE NEIGHBOUR: 'it returns false'. Refute it at one input. -/
def txnBackWrong : ChangeSpec := { name := "txnBack", fn := fun _ => fun
  | [d1, d2] => { results := [.lit (.bool false)], args := [d1, d2] }
  | _ => none }
def TxnBackWrongFalsely : Prop := txnBackRow.holds Tryz.pinned (OpenSpec.ofChange txnBackWrong)

/-- 'cohortlaw10.TxnWrites': WHATEVER THE INPUT: true; the input reads as it did. -/
def txnWritesSpec : ChangeSpec := { name := "txnWrites", fn := fun _ => fun
  | [d1, d2] => { results := [.lit (.bool true)], args := [d1, d2] }
  | _ => none }
def txnWritesRow : OpenClaim := { program := "ytaifmfnmgnmgbaagreatdoor", sum := "8fc53e74836684960d0b0299beddb234f35268c184829884b08abbdbfb37e23b", func := "cohort/cohortlaw10.TxnWrites", spec := "txnWrites", inPlace := ["internal/bytealg.abigen_runtime_cmpstring", "internal/reflectlite.ValueOf", "(internal/reflectlite.Value).Type", "(internal/reflectlite.Value).IsNil", "internal/reflectlite.TypeOf", "(internal/reflectlite.Value).Elem", "(internal/reflectlite.Value).Set"], unfollowed := true, recurses := true, named := ["errors.errorType"], apart := false, laid := [("errors.errorType", laid_errors_errorType)] }
def TxnWritesSaid : Prop := txnWritesRow.holds Tryz.pinned (OpenSpec.ofChange txnWritesSpec)

/-- ITS FALSE NEIGHBOUR: 'it returns false'. Refute it at one input. -/
def txnWritesWrong : ChangeSpec := { name := "txnWrites", fn := fun _ => fun
  | [d1, d2] => { results := [.lit (.bool false)], args := [d1, d2] }
  | _ => none }
def TxnWritesWrongFalsely : Prop := txnWritesRow.holds Tryz.pinned (OpenSpec.ofChange txnWritesWrong)

/-- 'cohortlaw10.TxnFits': WHATEVER THE INPUT: true; the input reads as it did. -/
def txnFitsSpec : ChangeSpec := { name := "txnFits", fn := fun _ => fun
  | [d1, d2, d3, d4] => { results := [.lit (.bool true)], args := [d1, d2, d3, d4] }
  | _ => none }
def txnFitsRow : OpenClaim := { program := "ytaifmfnmgnmgbaagreatdoor", sum := "8fc53e74836684960d0b0299beddb234f35268c184829884b08abbdbfb37e23b", func := "cohort/cohortlaw10.TxnFits", spec := "txnFits", inPlace := ["internal/bytealg.abigen_runtime_cmpstring", "internal/reflectlite.ValueOf", "(internal/reflectlite.Value).Type", "(internal/reflectlite.Value).IsNil", "internal/reflectlite.TypeOf", "(internal/reflectlite.Value).Elem", "(internal/reflectlite.Value).Set"], unfollowed := true, recurses := true, named := ["errors.errorType"], apart := false, laid := [("errors.errorType", laid_errors_errorType)] }
def TxnFitsSaid : Prop := txnFitsRow.holds Tryz.pinned (OpenSpec.ofChange txnFitsSpec)

/-- ITS FALSE NEIGHBOUR: 'it returns false'. Refute it at one input. -/
def txnFitsWrong : ChangeSpec := { name := "txnFits", fn := fun _ => fun
  | [d1, d2, d3, d4] => { results := [.lit (.bool false)], args := [d1, d2, d3, d4] }
  | _ => none }
def TxnFitsWrongFalsely : Prop := txnFitsRow.holds Tryz.pinned (OpenSpec.ofChange txnFitsWrong)

/-- 'cohortlaw10.TxnApart': WHATEVER THE INPUT: true; the input reads as it did. -/
def txnApartSpec : ChangeSpec := { name := "txnApart", fn := fun _ => fun
  | [d1, d2, d3] => { results := [.lit (.bool true)], args := [d1, d2, d3] }
  | _ => none }
def txnApartRow : OpenClaim := { program := "ytaifmfnmgnmgbaagreatdoor", sum := "8fc53e74836684960d0b0299beddb234f35268c184829884b08abbdbfb37e23b", func := "cohort/cohortlaw10.TxnApart", spec := "txnApart", inPlace := ["internal/bytealg.abigen_runtime_cmpstring", "internal/reflectlite.ValueOf", "(internal/reflectlite.Value).Type", "(internal/reflectlite.Value).IsNil", "internal/reflectlite.TypeOf", "(internal/reflectlite.Value).Elem", "(internal/reflectlite.Value).Set"], unfollowed := true, recurses := true, named := ["errors.errorType"], apart := false, laid := [("errors.errorType", laid_errors_errorType)] }
def TxnApartSaid : Prop := txnApartRow.holds Tryz.pinned (OpenSpec.ofChange txnApartSpec)

/-- ITS FALSE NEIGHBOUR: 'it returns false'. Refute it at one input. -/
def txnApartWrong : ChangeSpec := { name := "txnApart", fn := fun _ => fun
  | [d1, d2, d3] => { results := [.lit (.bool false)], args := [d1, d2, d3] }
  | _ => none }
def TxnApartWrongFalsely : Prop := txnApartRow.holds Tryz.pinned (OpenSpec.ofChange txnApartWrong)

/-- 'cohortlaw10.TxnKeys': WHATEVER THE INPUT: true; the input reads as it did. -/
def txnKeysSpec : ChangeSpec := { name := "txnKeys", fn := fun _ => fun
  | [d1, d2] => { results := [.lit (.bool true)], args := [d1, d2] }
  | _ => none }
def txnKeysRow : OpenClaim := { program := "ytaifmfnmgnmgbaagreatdoor", sum := "8fc53e74836684960d0b0299beddb234f35268c184829884b08abbdbfb37e23b", func := "cohort/cohortlaw10.TxnKeys", spec := "txnKeys", inPlace := ["internal/bytealg.abigen_runtime_cmpstring", "internal/reflectlite.ValueOf", "(internal/reflectlite.Value).Type", "(internal/reflectlite.Value).IsNil", "internal/reflectlite.TypeOf", "(internal/reflectlite.Value).Elem", "(internal/reflectlite.Value).Set"], unfollowed := true, recurses := true, named := ["errors.errorType"], apart := false, laid := [("errors.errorType", laid_errors_errorType)] }
def TxnKeysSaid : Prop := txnKeysRow.holds Tryz.pinned (OpenSpec.ofChange txnKeysSpec)

/-- ITS FALSE NEIGHBOUR: 'it returns false'. Refute it at one input. -/
def txnKeysWrong : ChangeSpec := { name := "txnKeys", fn := fun _ => fun
  | [d1, d2] => { results := [.lit (.bool false)], args := [d1, d2] }
  | _ => none }
def TxnKeysWrongFalsely : Prop := txnKeysRow.holds Tryz.pinned (OpenSpec.ofChange txnKeysWrong)

/- THE SECOND FORM. 'bulk': how many values and letters a reading holds, each counted each time it is reached (what is shared counts as often as it is met; a slice's spare places count too). A statement '..UptoSaid' is the law's where the arguments, and the package variables that the reading takes, are together of bulk at most 1048576: NARROWER than '..Said'. Prove '..Said' where nothing that the law and all that it calls make is longer than what came in: it says more and counts as full. Else prove '..UptoSaid'. A law counts once. -/
mutual
def uptoBulk {H : Type} : DataW H → Nat
  | .lit (.string bytes) => bytes.length + 1
  | .lit _ => 1
  | .nil => 1
  | .ptr d => uptoBulk d + 1
  | .slice elems spare => uptoBulkAll elems + uptoBulkAll spare + 1
  | .agg parts => uptoBulkAll parts + 1
  | .iface _ d => uptoBulk d + 1
  | .map entries => uptoBulkEntries entries + 1
  | .held _ => 1
def uptoBulkAll {H : Type} : List (DataW H) → Nat
  | [] => 0
  | d :: r => uptoBulk d + uptoBulkAll r
def uptoBulkEntries {H : Type} : List (Lit × DataW H) → Nat
  | [] => 0
  | x :: r => uptoBulkEntry x + uptoBulkEntries r
def uptoBulkEntry {H : Type} : Lit × DataW H → Nat
  | (.string bytes, d) => bytes.length + uptoBulk d + 1
  | (_, d) => uptoBulk d + 1
 end
def uptoSmall : (H : Type) → List (DataW H) → Bool := fun _ ds => decide (uptoBulkAll ds ≤ 1048576)
def OpenSpec.upto (s : _root_.Go.ChangeSpec) : _root_.Go.OpenSpec := { _root_.Go.OpenSpec.ofChange s with cond := some uptoSmall }

/-- 'cohortlaw10.TxnBack', WHERE WHAT IT READS IS OF BULK AT MOST 1048576: true; the input reads as it did. -/
def txnBackUptoRow : OpenClaim := { program := "ytaifmfnmgnmgbaagreatdoor", sum := "8fc53e74836684960d0b0299beddb234f35268c184829884b08abbdbfb37e23b", func := "cohort/cohortlaw10.TxnBack", spec := "txnBack", inPlace := ["internal/bytealg.abigen_runtime_cmpstring", "internal/reflectlite.ValueOf", "(internal/reflectlite.Value).Type", "(internal/reflectlite.Value).IsNil", "internal/reflectlite.TypeOf", "(internal/reflectlite.Value).Elem", "(internal/reflectlite.Value).Set"], unfollowed := true, recurses := true, named := ["errors.errorType"], apart := false, laid := [("errors.errorType", laid_errors_errorType)], narrowed := true }
def TxnBackUptoSaid : Prop := txnBackUptoRow.holds Tryz.pinned (OpenSpec.upto txnBackSpec)

/-- 'cohortlaw10.TxnWrites', WHERE WHAT IT READS IS OF BULK AT MOST 1048576: true; the input reads as it did. -/
def txnWritesUptoRow : OpenClaim := { program := "ytaifmfnmgnmgbaagreatdoor", sum := "8fc53e74836684960d0b0299beddb234f35268c184829884b08abbdbfb37e23b", func := "cohort/cohortlaw10.TxnWrites", spec := "txnWrites", inPlace := ["internal/bytealg.abigen_runtime_cmpstring", "internal/reflectlite.ValueOf", "(internal/reflectlite.Value).Type", "(internal/reflectlite.Value).IsNil", "internal/reflectlite.TypeOf", "(internal/reflectlite.Value).Elem", "(internal/reflectlite.Value).Set"], unfollowed := true, recurses := true, named := ["errors.errorType"], apart := false, laid := [("errors.errorType", laid_errors_errorType)], narrowed := true }
def TxnWritesUptoSaid : Prop := txnWritesUptoRow.holds Tryz.pinned (OpenSpec.upto txnWritesSpec)

/-- 'cohortlaw10.TxnFits', WHERE WHAT IT READS IS OF BULK AT MOST 1048576: true; the input reads as it did. -/
def txnFitsUptoRow : OpenClaim := { program := "ytaifmfnmgnmgbaagreatdoor", sum := "8fc53e74836684960d0b0299beddb234f35268c184829884b08abbdbfb37e23b", func := "cohort/cohortlaw10.TxnFits", spec := "txnFits", inPlace := ["internal/bytealg.abigen_runtime_cmpstring", "internal/reflectlite.ValueOf", "(internal/reflectlite.Value).Type", "(internal/reflectlite.Value).IsNil", "internal/reflectlite.TypeOf", "(internal/reflectlite.Value).Elem", "(internal/reflectlite.Value).Set"], unfollowed := true, recurses := true, named := ["errors.errorType"], apart := false, laid := [("errors.errorType", laid_errors_errorType)], narrowed := true }
def TxnFitsUptoSaid : Prop := txnFitsUptoRow.holds Tryz.pinned (OpenSpec.upto txnFitsSpec)

/-- 'cohortlaw10.TxnApart', WHERE WHAT IT READS IS OF BULK AT MOST 1048576: true; the input reads as it did. -/
def txnApartUptoRow : OpenClaim := { program := "ytaifmfnmgnmgbaagreatdoor", sum := "8fc53e74836684960d0b0299beddb234f35268c184829884b08abbdbfb37e23b", func := "cohort/cohortlaw10.TxnApart", spec := "txnApart", inPlace := ["internal/bytealg.abigen_runtime_cmpstring", "internal/reflectlite.ValueOf", "(internal/reflectlite.Value).Type", "(internal/reflectlite.Value).IsNil", "internal/reflectlite.TypeOf", "(internal/reflectlite.Value).Elem", "(internal/reflectlite.Value).Set"], unfollowed := true, recurses := true, named := ["errors.errorType"], apart := false, laid := [("errors.errorType", laid_errors_errorType)], narrowed := true }
def TxnApartUptoSaid : Prop := txnApartUptoRow.holds Tryz.pinned (OpenSpec.upto txnApartSpec)

/-- 'cohortlaw10.TxnKeys', WHERE WHAT IT READS IS OF BULK AT MOST 1048576: true; the input reads as it did. -/
def txnKeysUptoRow : OpenClaim := { program := "ytaifmfnmgnmgbaagreatdoor", sum := "8fc53e74836684960d0b0299beddb234f35268c184829884b08abbdbfb37e23b", func := "cohort/cohortlaw10.TxnKeys", spec := "txnKeys", inPlace := ["internal/bytealg.abigen_runtime_cmpstring", "internal/reflectlite.ValueOf", "(internal/reflectlite.Value).Type", "(internal/reflectlite.Value).IsNil", "internal/reflectlite.TypeOf", "(internal/reflectlite.Value).Elem", "(internal/reflectlite.Value).Set"], unfollowed := true, recurses := true, named := ["errors.errorType"], apart := false, laid := [("errors.errorType", laid_errors_errorType)], narrowed := true }
def TxnKeysUptoSaid : Prop := txnKeysUptoRow.holds Tryz.pinned (OpenSpec.upto txnKeysSpec)

end Rows
end Go.Proofs.YtaifmfnmgnmgbaaGreatDoor
