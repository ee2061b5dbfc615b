/-
  No cell of these rows narrows 'for every input' (looked for: loops, veiled, ifaces, maps, wideKeys, modest, calm, conditions, laid).
  DERIVED. THE GIVEN ROWS OF THIS SEAT. 5 by the template 'for every input the law returns true; each argument reads behind the call as it read before'; 0 by the template 'total and deterministic' (their statements: YtopmbphdkohbmaaTotals.lean).
  GIVEN WITH THE SEED: the statements are not yours to turn. If you find one false, say at which input.
  Laid BY PROGRAM, IN A SANDBOX (cutbox-rows.mjs): the forced cells as the released guide's own fill.sh prints them over the translation fc43323d461c9b28… (all of the seat's roots in one cut). By AI agents, Wed Nov 11 2026. No macro, syntax, notation, axiom, sorry.
-/
import Derived.Test.YtopmbphdkohbmaaChecked
import GoSem.Claim
import GoSem.ClaimJoined
import GoSem.ClaimMapViews
import Derived.JoinedTies
import Derived.KernelRfl
namespace Go.Proofs.Ytopmbphdkohbmaa
/- THE CELL 'sum', in the pinned program and in every row, IS THE sha256 OF THE DUMP (.gsa) THAT YtopmbphdkohbmaaProg.lean LOADS. Nothing in Lean hashes anything: it is a label: what it is worth is what the hold of that sum in a sandbox is worth. -/
noncomputable def Try.pinned : Pinned := { name := "ytopmbphdkohbmaa", sum := "fc43323d461c9b289a34dc265fc881bb28d7b622b1b8529cdd130c831bb6c800", checked := Try.checked }
namespace Rows
def none {H : Type} : Left H := { results := [], args := [] }

/-- 'cohortlaw07.StorePuts': WHATEVER THE INPUT: true; the input reads as it did. -/
def storePutsSpec : ChangeSpec := { name := "storePuts", fn := fun _ => fun
  | [d1, d2, d3, d4] => { results := [.lit (.bool true)], args := [d1, d2, d3, d4] }
  | _ => none }
def storePutsRow : OpenClaim := { program := "ytopmbphdkohbmaa", sum := "fc43323d461c9b289a34dc265fc881bb28d7b622b1b8529cdd130c831bb6c800", func := "cohort/cohortlaw07.StorePuts", spec := "storePuts", inPlace := ["internal/bytealg.abigen_runtime_cmpstring"], unfollowed := true, recurses := true, apart := false }
def StorePutsSaid : Prop := storePutsRow.holds Try.pinned (OpenSpec.ofChange storePutsSpec)

/-- ITS FALSE NEIGHBOUR: 'it returns false'. Refute it at one input. -/
def storePutsWrong : ChangeSpec := { name := "storePuts", fn := fun _ => fun
  | [d1, d2, d3, d4] => { results := [.lit (.bool false)], args := [d1, d2, d3, d4] }
  | _ => none }
def StorePutsWrongFalsely : Prop := storePutsRow.holds Try.pinned (OpenSpec.ofChange storePutsWrong)

/-- 'cohortlaw07.StoreKeys': WHATEVER THE INPUT: true; the input reads as it did. -/
def storeKeysSpec : ChangeSpec := { name := "storeKeys", fn := fun _ => fun
  | [d1, d2, d3, d4] => { results := [.lit (.bool true)], args := [d1, d2, d3, d4] }
  | _ => none }
def storeKeysRow : OpenClaim := { program := "ytopmbphdkohbmaa", sum := "fc43323d461c9b289a34dc265fc881bb28d7b622b1b8529cdd130c831bb6c800", func := "cohort/cohortlaw07.StoreKeys", spec := "storeKeys", inPlace := ["internal/bytealg.abigen_runtime_cmpstring"], unfollowed := true, recurses := true, apart := false }
def StoreKeysSaid : Prop := storeKeysRow.holds Try.pinned (OpenSpec.ofChange storeKeysSpec)

/-- ITS FALSE NEIGHBOUR: 'it returns false'. Refute it at one input. -/
def storeKeysWrong : ChangeSpec := { name := "storeKeys", fn := fun _ => fun
  | [d1, d2, d3, d4] => { results := [.lit (.bool false)], args := [d1, d2, d3, d4] }
  | _ => none }
def StoreKeysWrongFalsely : Prop := storeKeysRow.holds Try.pinned (OpenSpec.ofChange storeKeysWrong)

/-- 'cohortlaw07.StoreOrder': WHATEVER THE INPUT: true; the input reads as it did. -/
def storeOrderSpec : ChangeSpec := { name := "storeOrder", fn := fun _ => fun
  | [d1, d2] => { results := [.lit (.bool true)], args := [d1, d2] }
  | _ => none }
def storeOrderRow : OpenClaim := { program := "ytopmbphdkohbmaa", sum := "fc43323d461c9b289a34dc265fc881bb28d7b622b1b8529cdd130c831bb6c800", func := "cohort/cohortlaw07.StoreOrder", spec := "storeOrder", inPlace := ["internal/bytealg.abigen_runtime_cmpstring"], unfollowed := true, recurses := true, apart := false }
def StoreOrderSaid : Prop := storeOrderRow.holds Try.pinned (OpenSpec.ofChange storeOrderSpec)

/-- ITS FALSE NEIGHBOUR: 'it returns false'. Refute it at one input. -/
def storeOrderWrong : ChangeSpec := { name := "storeOrder", fn := fun _ => fun
  | [d1, d2] => { results := [.lit (.bool false)], args := [d1, d2] }
  | _ => none }
def StoreOrderWrongFalsely : Prop := storeOrderRow.holds Try.pinned (OpenSpec.ofChange storeOrderWrong)

/-- 'cohortlaw07.StoreLays': WHATEVER THE INPUT: true; the input reads as it did. -/
def storeLaysSpec : ChangeSpec := { name := "storeLays", fn := fun _ => fun
  | [d1, d2, d3] => { results := [.lit (.bool true)], args := [d1, d2, d3] }
  | _ => none }
def storeLaysRow : OpenClaim := { program := "ytopmbphdkohbmaa", sum := "fc43323d461c9b289a34dc265fc881bb28d7b622b1b8529cdd130c831bb6c800", func := "cohort/cohortlaw07.StoreLays", spec := "storeLays", inPlace := ["internal/bytealg.abigen_runtime_cmpstring"], unfollowed := true, recurses := true, apart := false }
def StoreLaysSaid : Prop := storeLaysRow.holds Try.pinned (OpenSpec.ofChange storeLaysSpec)

/-- ITS FALSE NEIGHBOUR: 'it returns false'. Refute it at one input. -/
def storeLaysWrong : ChangeSpec := { name := "storeLays", fn := fun _ => fun
  | [d1, d2, d3] => { results := [.lit (.bool false)], args := [d1, d2, d3] }
  | _ => none }
def StoreLaysWrongFalsely : Prop := storeLaysRow.holds Try.pinned (OpenSpec.ofChange storeLaysWrong)

/-- 'cohortlaw07.StoreDrops': WHATEVER THE INPUT: true; the input reads as it did. -/
def storeDropsSpec : ChangeSpec := { name := "storeDrops", fn := fun _ => fun
  | [d1, d2, d3] => { results := [.lit (.bool true)], args := [d1, d2, d3] }
  | _ => none }
def storeDropsRow : OpenClaim := { program := "ytopmbphdkohbmaa", sum := "fc43323d461c9b289a34dc265fc881bb28d7b622b1b8529cdd130c831bb6c800", func := "cohort/cohortlaw07.StoreDrops", spec := "storeDrops", inPlace := ["internal/bytealg.abigen_runtime_cmpstring"], unfollowed := true, recurses := true, apart := false }
def StoreDropsSaid : Prop := storeDropsRow.holds Try.pinned (OpenSpec.ofChange storeDropsSpec)

/-- ITS FALSE NEIGHBOUR: 'it returns false'. Refute it at one input. -/
def storeDropsWrong : ChangeSpec := { name := "storeDrops", fn := fun _ => fun
  | [d1, d2, d3] => { results := [.lit (.bool false)], args := [d1, d2, d3] }
  | _ => none }
def StoreDropsWrongFalsely : Prop := storeDropsRow.holds Try.pinned (OpenSpec.ofChange storeDropsWrong)

/- THE SECOND FORM. 'bulk': how many values and letters a reading holds, each counted each time it is reached (what is shared counts as often as it is met; a slice's spare places count too). A statement '..UptoSaid' is the law's where the arguments, and the package variables that the reading takes, are together of bulk at most 1048576: NARROWER than '..Said'. Prove '..Said' where nothing that the law and all that it calls make is longer than what came in: it says more and counts as full. Else prove '..UptoSaid'. A law counts once. -/
mutual
def uptoBulk {H : Type} : DataW H → Nat
  | .lit (.string bytes) => bytes.length + 1
  | .lit _ => 1
  | .nil => 1
  | .ptr d => uptoBulk d + 1
  | .slice elems spare => uptoBulkAll elems + uptoBulkAll spare + 1
  | .agg parts => uptoBulkAll parts + 1
  | .iface _ d => uptoBulk d + 1
  | .map entries => uptoBulkEntries entries + 1
  | .held _ => 1
def uptoBulkAll {H : Type} : List (DataW H) → Nat
  | [] => 0
  | d :: r => uptoBulk d + uptoBulkAll r
def uptoBulkEntries {H : Type} : List (Lit × DataW H) → Nat
  | [] => 0
  | x :: r => uptoBulkEntry x + uptoBulkEntries r
def uptoBulkEntry {H : Type} : Lit × DataW H → Nat
  | (.string bytes, d) => bytes.length + uptoBulk d + 1
  | (_, d) => uptoBulk d + 1
 end
def uptoSmall : (H : Type) → List (DataW H) → Bool := fun _ ds => decide (uptoBulkAll ds ≤ 1048576)
def OpenSpec.upto (s : _root_.Go.ChangeSpec) : _root_.Go.OpenSpec := { _root_.Go.OpenSpec.ofChange s with cond := some uptoSmall }

/-- 'cohortlaw07.StorePuts', WHERE WHAT IT READS IS OF BULK AT MOST 1048576: true; the input reads as it did. -/
def storePutsUptoRow : OpenClaim := { program := "ytopmbphdkohbmaa", sum := "fc43323d461c9b289a34dc265fc881bb28d7b622b1b8529cdd130c831bb6c800", func := "cohort/cohortlaw07.StorePuts", spec := "storePuts", inPlace := ["internal/bytealg.abigen_runtime_cmpstring"], unfollowed := true, recurses := true, apart := false, narrowed := true }
def StorePutsUptoSaid : Prop := storePutsUptoRow.holds Try.pinned (OpenSpec.upto storePutsSpec)

/-- 'cohortlaw07.StoreKeys', WHERE WHAT IT READS IS OF BULK AT MOST 1048576: true; the input reads as it did. -/
def storeKeysUptoRow : OpenClaim := { program := "ytopmbphdkohbmaa", sum := "fc43323d461c9b289a34dc265fc881bb28d7b622b1b8529cdd130c831bb6c800", func := "cohort/cohortlaw07.StoreKeys", spec := "storeKeys", inPlace := ["internal/bytealg.abigen_runtime_cmpstring"], unfollowed := true, recurses := true, apart := false, narrowed := true }
def StoreKeysUptoSaid : Prop := storeKeysUptoRow.holds Try.pinned (OpenSpec.upto storeKeysSpec)

/-- 'cohortlaw07.StoreOrder', WHERE WHAT IT READS IS OF BULK AT MOST 1048576: true; the input reads as it did. -/
def storeOrderUptoRow : OpenClaim := { program := "ytopmbphdkohbmaa", sum := "fc43323d461c9b289a34dc265fc881bb28d7b622b1b8529cdd130c831bb6c800", func := "cohort/cohortlaw07.StoreOrder", spec := "storeOrder", inPlace := ["internal/bytealg.abigen_runtime_cmpstring"], unfollowed := true, recurses := true, apart := false, narrowed := true }
def StoreOrderUptoSaid : Prop := storeOrderUptoRow.holds Try.pinned (OpenSpec.upto storeOrderSpec)

/-- 'cohortlaw07.StoreLays', WHERE WHAT IT READS IS OF BULK AT MOST 1048576: true; the input reads as it did. -/
def storeLaysUptoRow : OpenClaim := { program := "ytopmbphdkohbmaa", sum := "fc43323d461c9b289a34dc265fc881bb28d7b622b1b8529cdd130c831bb6c800", func := "cohort/cohortlaw07.StoreLays", spec := "storeLays", inPlace := ["internal/bytealg.abigen_runtime_cmpstring"], unfollowed := true, recurses := true, apart := false, narrowed := true }
def StoreLaysUptoSaid : Prop := storeLaysUptoRow.holds Try.pinned (OpenSpec.upto storeLaysSpec)

/-- 'cohortlaw07.StoreDrops', WHERE WHAT IT READS IS OF BULK AT MOST 1048576: true; the input reads as it did. -/
def storeDropsUptoRow : OpenClaim := { program := "ytopmbphdkohbmaa", sum := "fc43323d461c9b289a34dc265fc881bb28d7b622b1b8529cdd130c831bb6c800", func := "cohort/cohortlaw07.StoreDrops", spec := "storeDrops", inPlace := ["internal/bytealg.abigen_runtime_cmpstring"], unfollowed := true, recurses := true, apart := false, narrowed := true }
def StoreDropsUptoSaid : Prop := storeDropsUptoRow.holds Try.pinned (OpenSpec.upto storeDropsSpec)

end Rows
end Go.Proofs.Ytopmbphdkohbmaa
