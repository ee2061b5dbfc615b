/- Two facts of the program's tables. -/
import Derived.Test.YtlepjjcnlcnnfaaChecked
import Derived.ProofKit
import Derived.ChangeOld
import Derived.Below
namespace Go.Proofs.Ytlepjjcnlcnnfaa
open Go.ChangeShapes Go.WideShapes Go.ChangeAt Go.RowKit
theorem own : ownKnob Try.prog.godebug = none := by kernel_rfl
theorem laidOut : laidOutB Try.prog = true := by kernel_rfl
end Go.Proofs.Ytlepjjcnlcnnfaa
