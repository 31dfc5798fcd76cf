import Derived.Test.YtelmlhlkefmjkaaGreatDoorCards
import Derived.ProofKit
import Derived.SevenTiedAt
set_option linter.unusedSimpArgs false
set_option linter.unusedVariables false
/- Closed facts of the row, B. -/
namespace Go.Proofs.YtelmlhlkefmjkaaGreatDoor
open Go.ChangeShapes Go.WideShapes Go.ChangeAt Go.RowKit
set_option maxRecDepth 100000
theorem recurses_c : (Rows.worldNewRow.recurses == Tryz.prog.recurses 7) = true := by kernel_rfl
theorem named_c : (Rows.worldNewRow.named == Tryz.prog.varsNamed 7) = true := by kernel_rfl
end Go.Proofs.YtelmlhlkefmjkaaGreatDoor
