/- Two facts of the program's tables. -/
import Derived.Test.YtaifmfnmgnmgbaaGreatDoorChecked
import Derived.ProofKit
import Derived.ChangeOld
import Derived.Below
namespace Go.Proofs.YtaifmfnmgnmgbaaGreatDoor
open Go.ChangeShapes Go.WideShapes Go.ChangeAt Go.RowKit
theorem own : ownKnob Tryz.prog.godebug = none := by kernel_rfl
theorem laidOut : laidOutB Tryz.prog = true := by kernel_rfl
end Go.Proofs.YtaifmfnmgnmgbaaGreatDoor
