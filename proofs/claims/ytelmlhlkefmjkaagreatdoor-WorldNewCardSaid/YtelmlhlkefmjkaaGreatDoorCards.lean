/-
  DERIVED. GIVEN WITH THE SEED: THE CARDS: each row of YtelmlhlkefmjkaaGreatDoorRows.lean that lists a variable, with what it lists TIED to the program's text (the seventh form; the later family's looks); each row that meets fmt, with fmt's text TOLD by the authors' own Lean function (tested against real Go, not proved from fmt's source: count such statements apart). THE CARD IS WHAT COUNTS. Prove the row's statement (the work); the ties are given (YtelmlhlkefmjkaaGreatDoorTie.lean); close each card by the builder's one call (the guide's Derived/Test/ToyasCard.lean, 'card_holds'). Laid BY PROGRAM, IN A SANDBOX (cutbox-door.mjs). By AI agents, Wed Nov 11 2026. No macro, syntax, notation, axiom, sorry.
-/
import Derived.Test.YtelmlhlkefmjkaaGreatDoorRows
import GoSem.ClaimSeven
namespace Go.Proofs.YtelmlhlkefmjkaaGreatDoor
namespace Rows

/-- THE TIED CARD OF 'holtlaw21.WorldSteps'. -/
def worldStepsCard : Claim7 := { stood := { row := worldStepsRow, standIns := [], harness := (true, "198b04b967688a34998af26147ef8c75c1d98a0ec902ef6b6c313306def724cb"), looks := true }, kinds := [], alts := [], laidByText := true, laidKinds := [.data, .pinned], laidTests := true, laidLooks := .later }
def WorldStepsCardSaid : Prop := Claim7.holds Tryz.pinned (.plain (OpenSpec.ofChange worldStepsSpec)) worldStepsCard

/-- THE TIED CARD OF 'holtlaw21.WorldMany'. -/
def worldManyCard : Claim7 := { stood := { row := worldManyRow, standIns := [], harness := (true, "198b04b967688a34998af26147ef8c75c1d98a0ec902ef6b6c313306def724cb"), looks := true }, kinds := [], alts := [], laidByText := true, laidKinds := [.data, .pinned], laidTests := true, laidLooks := .later }
def WorldManyCardSaid : Prop := Claim7.holds Tryz.pinned (.plain (OpenSpec.ofChange worldManySpec)) worldManyCard

/-- THE TIED CARD OF 'holtlaw21.WorldAlone'. -/
def worldAloneCard : Claim7 := { stood := { row := worldAloneRow, standIns := [], harness := (true, "198b04b967688a34998af26147ef8c75c1d98a0ec902ef6b6c313306def724cb"), looks := true }, kinds := [], alts := [], laidByText := true, laidKinds := [.data, .pinned], laidTests := true, laidLooks := .later }
def WorldAloneCardSaid : Prop := Claim7.holds Tryz.pinned (.plain (OpenSpec.ofChange worldAloneSpec)) worldAloneCard

/-- THE TIED CARD OF 'holtlaw21.WorldEnds'. -/
def worldEndsCard : Claim7 := { stood := { row := worldEndsRow, standIns := [], harness := (true, "198b04b967688a34998af26147ef8c75c1d98a0ec902ef6b6c313306def724cb"), looks := true }, kinds := [], alts := [], laidByText := true, laidKinds := [.data, .pinned], laidTests := true, laidLooks := .later }
def WorldEndsCardSaid : Prop := Claim7.holds Tryz.pinned (.plain (OpenSpec.ofChange worldEndsSpec)) worldEndsCard

/-- THE TIED CARD OF 'holtlaw21.WorldNew'. -/
def worldNewCard : Claim7 := { stood := { row := worldNewRow, standIns := [], harness := (true, "198b04b967688a34998af26147ef8c75c1d98a0ec902ef6b6c313306def724cb"), looks := true }, kinds := [], alts := [], laidByText := true, laidKinds := [.data, .pinned], laidTests := true, laidLooks := .later }
def WorldNewCardSaid : Prop := Claim7.holds Tryz.pinned (.plain (OpenSpec.ofChange worldNewSpec)) worldNewCard

/-- THE TIED CARD OF 'holtlaw21.WorldAdds'. -/
def worldAddsCard : Claim7 := { stood := { row := worldAddsRow, standIns := [], harness := (true, "198b04b967688a34998af26147ef8c75c1d98a0ec902ef6b6c313306def724cb"), looks := true }, kinds := [], alts := [], laidByText := true, laidKinds := [.data, .pinned], laidTests := true, laidLooks := .later }
def WorldAddsCardSaid : Prop := Claim7.holds Tryz.pinned (.plain (OpenSpec.ofChange worldAddsSpec)) worldAddsCard

/-- THE SECOND FORM's CARD OF 'holtlaw21.WorldSteps'. -/
def worldStepsUptoCard : Claim7 := { stood := { row := worldStepsUptoRow, standIns := [], harness := (true, "198b04b967688a34998af26147ef8c75c1d98a0ec902ef6b6c313306def724cb"), looks := true }, kinds := [], alts := [], laidByText := true, laidKinds := [.data, .pinned], laidTests := true, laidLooks := .later }
def WorldStepsUptoCardSaid : Prop := Claim7.holds Tryz.pinned (.plain (OpenSpec.upto worldStepsSpec)) worldStepsUptoCard

/-- THE SECOND FORM's CARD OF 'holtlaw21.WorldMany'. -/
def worldManyUptoCard : Claim7 := { stood := { row := worldManyUptoRow, standIns := [], harness := (true, "198b04b967688a34998af26147ef8c75c1d98a0ec902ef6b6c313306def724cb"), looks := true }, kinds := [], alts := [], laidByText := true, laidKinds := [.data, .pinned], laidTests := true, laidLooks := .later }
def WorldManyUptoCardSaid : Prop := Claim7.holds Tryz.pinned (.plain (OpenSpec.upto worldManySpec)) worldManyUptoCard

/-- THE SECOND FORM's CARD OF 'holtlaw21.WorldAlone'. -/
def worldAloneUptoCard : Claim7 := { stood := { row := worldAloneUptoRow, standIns := [], harness := (true, "198b04b967688a34998af26147ef8c75c1d98a0ec902ef6b6c313306def724cb"), looks := true }, kinds := [], alts := [], laidByText := true, laidKinds := [.data, .pinned], laidTests := true, laidLooks := .later }
def WorldAloneUptoCardSaid : Prop := Claim7.holds Tryz.pinned (.plain (OpenSpec.upto worldAloneSpec)) worldAloneUptoCard

/-- THE SECOND FORM's CARD OF 'holtlaw21.WorldEnds'. -/
def worldEndsUptoCard : Claim7 := { stood := { row := worldEndsUptoRow, standIns := [], harness := (true, "198b04b967688a34998af26147ef8c75c1d98a0ec902ef6b6c313306def724cb"), looks := true }, kinds := [], alts := [], laidByText := true, laidKinds := [.data, .pinned], laidTests := true, laidLooks := .later }
def WorldEndsUptoCardSaid : Prop := Claim7.holds Tryz.pinned (.plain (OpenSpec.upto worldEndsSpec)) worldEndsUptoCard

/-- THE SECOND FORM's CARD OF 'holtlaw21.WorldNew'. -/
def worldNewUptoCard : Claim7 := { stood := { row := worldNewUptoRow, standIns := [], harness := (true, "198b04b967688a34998af26147ef8c75c1d98a0ec902ef6b6c313306def724cb"), looks := true }, kinds := [], alts := [], laidByText := true, laidKinds := [.data, .pinned], laidTests := true, laidLooks := .later }
def WorldNewUptoCardSaid : Prop := Claim7.holds Tryz.pinned (.plain (OpenSpec.upto worldNewSpec)) worldNewUptoCard

/-- THE SECOND FORM's CARD OF 'holtlaw21.WorldAdds'. -/
def worldAddsUptoCard : Claim7 := { stood := { row := worldAddsUptoRow, standIns := [], harness := (true, "198b04b967688a34998af26147ef8c75c1d98a0ec902ef6b6c313306def724cb"), looks := true }, kinds := [], alts := [], laidByText := true, laidKinds := [.data, .pinned], laidTests := true, laidLooks := .later }
def WorldAddsUptoCardSaid : Prop := Claim7.holds Tryz.pinned (.plain (OpenSpec.upto worldAddsSpec)) worldAddsUptoCard
end Rows
end Go.Proofs.YtelmlhlkefmjkaaGreatDoor
