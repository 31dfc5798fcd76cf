import Derived.Test.YtelmlhlkefmjkaaGreatDoorCards
import Derived.ProofKit
import Derived.SevenTiedAt
set_option linter.unusedSimpArgs false
set_option linter.unusedVariables false
/- Closed facts of the row, C. -/
namespace Go.Proofs.YtelmlhlkefmjkaaGreatDoor
open Go.ChangeShapes Go.WideShapes Go.ChangeAt Go.RowKit
set_option maxRecDepth 100000
theorem laidOut_c : laidOutB Tryz.prog = true := by kernel_rfl
theorem mapsRowed_c : mapsRowed Tryz.prog = true := by kernel_rfl
theorem heard_c : Tryz.prog.stopsHeard = true := by kernel_rfl
theorem may_c : Tryz.prog.mayEnter = true := by kernel_rfl
end Go.Proofs.YtelmlhlkefmjkaaGreatDoor
