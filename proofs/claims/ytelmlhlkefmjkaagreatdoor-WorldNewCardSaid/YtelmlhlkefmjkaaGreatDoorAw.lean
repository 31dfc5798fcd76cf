import Derived.Test.YtelmlhlkefmjkaaGreatDoorCf
import Derived.Test.YtelmlhlkefmjkaaGreatDoorAiK
set_option linter.unusedSimpArgs false
set_option linter.unusedVariables false
namespace Go.Ai
open Go Go.Proofs
def look0 (r : Option (AR × H)) : Option (Option Obj × Bool) := match r with
  | some (.ret (.bool true), h) => some (h.get 0, decide (0 < h.next))
  | _ => none
set_option maxRecDepth 100000 in
theorem awake_caps (a b c d e : AV) : look0 (aiQ cfg 300 (.fn 9) [] (H.empty.new (.blk 5 [[a, b, c, d, e]]))) = some (some (.blk 5 [[a, b, c, d, e]]), true) := by kernel_rfl
theorem awake_ok (a b c d e : AV) : ∃ h, cl cfg (.fn 9) [] (H.empty.new (.blk 5 [[a, b, c, d, e]])) = some (.ret (.bool true), h) ∧ h.get 0 = some (.blk 5 [[a, b, c, d, e]]) ∧ 0 < h.next := by
  have h0 := awake_caps a b c d e
  unfold look0 at h0
  split at h0
  · rename_i h he
    simp only [Option.some.injEq, Prod.mk.injEq, decide_eq_true_eq] at h0
    exact ⟨h, cl_of hfz (aiQ_ok hfz _ _ _ _ _ he), h0.1, h0.2⟩
  · cases h0
end Go.Ai
