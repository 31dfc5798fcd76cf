import Derived.Test.YtelmlhlkefmjkaaGreatDoorCards
import Derived.ProofKit
import Derived.SevenTiedAt
set_option linter.unusedSimpArgs false
set_option linter.unusedVariables false
/- Closed facts of the row, D. -/
namespace Go.Proofs.YtelmlhlkefmjkaaGreatDoor
open Go.ChangeShapes Go.WideShapes Go.ChangeAt Go.RowKit
set_option maxRecDepth 100000
theorem goesBy_c : false = Rows.worldNewRow.goesBy Tryz.prog := by kernel_rfl
end Go.Proofs.YtelmlhlkefmjkaaGreatDoor
