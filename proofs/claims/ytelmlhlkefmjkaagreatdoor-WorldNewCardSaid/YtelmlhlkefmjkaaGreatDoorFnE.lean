import Derived.Test.YtelmlhlkefmjkaaGreatDoorCards
import Derived.ProofKit
import Derived.SevenTiedAt
set_option linter.unusedSimpArgs false
set_option linter.unusedVariables false
/- Closed facts of the row, E. -/
namespace Go.Proofs.YtelmlhlkefmjkaaGreatDoor
open Go.ChangeShapes Go.WideShapes Go.ChangeAt Go.RowKit
set_option maxRecDepth 100000
theorem looks_c : true = Tryz.prog.looks [] := by kernel_rfl
theorem lifted__c : (Rows.worldNewRow.lifted == Tryz.prog.liftsFinal) = true := by kernel_rfl
theorem make_c : (Tryz.prog.make == some Rows.worldNewRow.make) = true := by kernel_rfl
theorem plainKeys_c : (Rows.worldNewRow.plainKeys == Tryz.prog.plainKeys) = true := by kernel_rfl
theorem mainIs_c : Tryz.prog.mainIs = some (true, "198b04b967688a34998af26147ef8c75c1d98a0ec902ef6b6c313306def724cb".toList) := by kernel_rfl
end Go.Proofs.YtelmlhlkefmjkaaGreatDoor
