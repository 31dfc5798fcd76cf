import Derived.Test.YtelmlhlkefmjkaaGreatDoorWnM
import Derived.Test.YtelmlhlkefmjkaaGreatDoorFnA
import Derived.Test.YtelmlhlkefmjkaaGreatDoorFnB
import Derived.Test.YtelmlhlkefmjkaaGreatDoorFnC
import Derived.Test.YtelmlhlkefmjkaaGreatDoorFnD
import Derived.Test.YtelmlhlkefmjkaaGreatDoorFnE
set_option linter.unusedSimpArgs false
set_option linter.unusedVariables false
/- The law of the making of a world: the row and the card, joined. -/
namespace Go.Proofs.YtelmlhlkefmjkaaGreatDoor
open Go.ChangeShapes Go.WideShapes Go.ChangeAt Go.RowKit Go.Joins Go.Deep Go.Ai
set_option maxRecDepth 100000

theorem joined : joinedFacts Tryz.prog 7 Tryz.f7 Rows.worldNewSpec Rows.worldNewRow = true := by
  simp only [joinedFacts, Bool.and_eq_true]
  exact ⟨⟨⟨⟨⟨⟨⟨⟨⟨⟨⟨⟨⟨⟨⟨⟨⟨⟨⟨⟨⟨⟨⟨⟨⟨⟨⟨⟨⟨⟨⟨by kernel_rfl, laidOut_c⟩, mapsRowed_c⟩, by kernel_rfl⟩, by kernel_rfl⟩, by kernel_rfl⟩, by kernel_rfl⟩, by kernel_rfl⟩, by kernel_rfl⟩, inPlace_c⟩, unfollowed_c⟩, recurses_c⟩, named_c⟩,
    by kernel_rfl⟩, by kernel_rfl⟩, by kernel_rfl⟩, by kernel_rfl⟩, by kernel_rfl⟩, by kernel_rfl⟩, by kernel_rfl⟩, by kernel_rfl⟩, by kernel_rfl⟩, plainKeys_c⟩, by kernel_rfl⟩, heard_c⟩, may_c⟩, lifted__c⟩, make_c⟩, by kernel_rfl⟩, by kernel_rfl⟩, by kernel_rfl⟩, by kernel_rfl⟩

theorem holds : Rows.WorldNewSaid :=
  OpenClaim.holds_of_wide 7 Tryz.f7 rfl rfl rfl rfl rfl rfl rfl ⟨rfl, rfl, rfl, rfl, rfl⟩ rfl rfl rfl rfl rfl (by kernel_rfl) Tryz.func7 joined
    (of_decide_eq_true (by kernel_rfl)) (by unfold Func.isWrapper; first | (rw [if_pos (by decide +kernel)]; kernel_rfl) | (rw [if_neg (by decide +kernel)]; exact ⟨rfl, rfl⟩))
    (fun os started H enc _ => lifted os started H enc)

theorem worldNew_card_holds : Rows.WorldNewCardSaid :=
  Claim7.holds_tied_plain_at .later [] [.data, .pinned] true (true, "198b04b967688a34998af26147ef8c75c1d98a0ec902ef6b6c313306def724cb") true holds (fun _ h => by cases h) (by kernel_rfl) (fun _ h => by cases h) worldNew_row_tie rfl ⟨rfl, rfl⟩ mainIs_c rfl
    (fun f fn hf hfn => by
      obtain rfl : f = 7 := Option.some.inj ((show Tryz.prog.funcNamed "holt/holtlaw21.WorldNew" = some 7 by kernel_rfl).symm.trans hf) |>.symm
      obtain rfl : fn = Tryz.f7 := (Option.some.inj (Tryz.func7.symm.trans hfn)).symm
      exact ⟨looks_c, fun j t ht => by
        rw [Tryz.params7] at ht
        have hm : t ∈ [3, 29, 5] := by simpa using Array.mem_of_getElem? ht
        have hall : ([3, 29, 5].all fun u => !Tryz.prog.wantsStandIn u) = true := by kernel_rfl
        exact (show Tryz.prog.wantsStandIn t = false by simpa using List.all_eq_true.1 hall t hm)⟩)
    goesBy_c
#print axioms worldNew_card_holds
end Go.Proofs.YtelmlhlkefmjkaaGreatDoor
