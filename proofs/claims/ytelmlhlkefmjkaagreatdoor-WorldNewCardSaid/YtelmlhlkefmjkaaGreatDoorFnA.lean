import Derived.Test.YtelmlhlkefmjkaaGreatDoorCards
import Derived.ProofKit
import Derived.SevenTiedAt
set_option linter.unusedSimpArgs false
set_option linter.unusedVariables false
/- Closed facts of the row, A. -/
namespace Go.Proofs.YtelmlhlkefmjkaaGreatDoor
open Go.ChangeShapes Go.WideShapes Go.ChangeAt Go.RowKit
set_option maxRecDepth 100000
theorem inPlace_c : (Rows.worldNewRow.inPlace == Tryz.prog.inPlace 7) = true := by kernel_rfl
theorem unfollowed_c : (Rows.worldNewRow.unfollowed == Tryz.prog.unfollowed 7) = true := by kernel_rfl
end Go.Proofs.YtelmlhlkefmjkaaGreatDoor
