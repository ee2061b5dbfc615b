/- Two facts of the program's tables. -/
import Derived.Test.YtlepjjcnlcnnfaaDoorChecked
import Derived.ProofKit
import Derived.ChangeOld
import Derived.Below
namespace Go.Proofs.YtlepjjcnlcnnfaaDoor
open Go.ChangeShapes Go.WideShapes Go.ChangeAt Go.RowKit
theorem own : ownKnob Tryd.prog.godebug = none := by kernel_rfl
theorem laidOut : laidOutB Tryd.prog = true := by kernel_rfl
end Go.Proofs.YtlepjjcnlcnnfaaDoor
