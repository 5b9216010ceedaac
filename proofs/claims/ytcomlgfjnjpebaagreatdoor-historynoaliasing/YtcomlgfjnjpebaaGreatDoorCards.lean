/-
  DERIVED. GIVEN WITH THE SEED: THE CARDS: each row of YtcomlgfjnjpebaaGreatDoorRows.lean that lists a variable, with what it lists TIED to the program's text (the seventh form; the later family's looks); each row that meets fmt, with fmt's text TOLD by the authors' own Lean function (tested against real Go, not proved from fmt's source: count such statements apart). THE CARD IS WHAT COUNTS. Prove the row's statement (the work); the ties are given (YtcomlgfjnjpebaaGreatDoorTie.lean); close each card by the builder's one call (the guide's Derived/Test/ToyasCard.lean, 'card_holds'). Laid BY PROGRAM, IN A SANDBOX (cutbox-door.mjs). By AI agents, Wed Nov 11 2026. No macro, syntax, notation, axiom, sorry.
-/
import Derived.Test.YtcomlgfjnjpebaaGreatDoorRows
import GoSem.ClaimSeven
namespace Go.Proofs.YtcomlgfjnjpebaaGreatDoor
namespace Rows

/-- THE TIED CARD OF 'setsquarelaw53.HistoryNeeds'. -/
def historyNeedsCard : Claim7 := { stood := { row := historyNeedsRow, standIns := [], harness := (true, "3d11a4bf1dee2d66407522a903d62afb625a42b086ed699c822710aab6d4fdf7"), looks := false }, kinds := [], alts := [], laidByText := true, laidKinds := [.data, .data, .data, .data], laidTests := true, laidLooks := .later }
def HistoryNeedsCardSaid : Prop := Claim7.holds Tryz.pinned (.plain (OpenSpec.ofChange historyNeedsSpec)) historyNeedsCard

/-- THE TIED CARD OF 'setsquarelaw53.HistoryFull'. -/
def historyFullCard : Claim7 := { stood := { row := historyFullRow, standIns := [], harness := (true, "3d11a4bf1dee2d66407522a903d62afb625a42b086ed699c822710aab6d4fdf7"), looks := false }, kinds := [], alts := [], laidByText := true, laidKinds := [.data, .data, .data, .data], laidTests := true, laidLooks := .later }
def HistoryFullCardSaid : Prop := Claim7.holds Tryz.pinned (.plain (OpenSpec.ofChange historyFullSpec)) historyFullCard

/-- THE TIED CARD OF 'setsquarelaw53.HistoryOps'. -/
def historyOpsCard : Claim7 := { stood := { row := historyOpsRow, standIns := [], harness := (true, "3d11a4bf1dee2d66407522a903d62afb625a42b086ed699c822710aab6d4fdf7"), looks := false }, kinds := [], alts := [], laidByText := true, laidKinds := [.data, .data, .data, .data], laidTests := true, laidLooks := .later }
def HistoryOpsCardSaid : Prop := Claim7.holds Tryz.pinned (.plain (OpenSpec.ofChange historyOpsSpec)) historyOpsCard

/-- THE TIED CARD OF 'setsquarelaw53.HistoryValid'. -/
def historyValidCard : Claim7 := { stood := { row := historyValidRow, standIns := [], harness := (true, "3d11a4bf1dee2d66407522a903d62afb625a42b086ed699c822710aab6d4fdf7"), looks := false }, kinds := [], alts := [], laidByText := true, laidKinds := [.data, .data, .data, .data], laidTests := true, laidLooks := .later }
def HistoryValidCardSaid : Prop := Claim7.holds Tryz.pinned (.plain (OpenSpec.ofChange historyValidSpec)) historyValidCard

/-- THE TIED CARD OF 'setsquarelaw53.HistoryUndoAll'. -/
def historyUndoAllCard : Claim7 := { stood := { row := historyUndoAllRow, standIns := [], harness := (true, "3d11a4bf1dee2d66407522a903d62afb625a42b086ed699c822710aab6d4fdf7"), looks := false }, kinds := [], alts := [], laidByText := true, laidKinds := [.data, .data, .data, .data], laidTests := true, laidLooks := .later }
def HistoryUndoAllCardSaid : Prop := Claim7.holds Tryz.pinned (.plain (OpenSpec.ofChange historyUndoAllSpec)) historyUndoAllCard

/-- THE TIED CARD OF 'setsquarelaw53.HistoryNoAliasing'. -/
def historyNoAliasingCard : Claim7 := { stood := { row := historyNoAliasingRow, standIns := [], harness := (true, "3d11a4bf1dee2d66407522a903d62afb625a42b086ed699c822710aab6d4fdf7"), looks := false }, kinds := [], alts := [], laidByText := true, laidKinds := [.data, .data, .data, .data], laidTests := true, laidLooks := .later }
def HistoryNoAliasingCardSaid : Prop := Claim7.holds Tryz.pinned (.plain (OpenSpec.ofChange historyNoAliasingSpec)) historyNoAliasingCard

/-- THE SECOND FORM's CARD OF 'setsquarelaw53.HistoryNeeds'. -/
def historyNeedsUptoCard : Claim7 := { stood := { row := historyNeedsUptoRow, standIns := [], harness := (true, "3d11a4bf1dee2d66407522a903d62afb625a42b086ed699c822710aab6d4fdf7"), looks := false }, kinds := [], alts := [], laidByText := true, laidKinds := [.data, .data, .data, .data], laidTests := true, laidLooks := .later }
def HistoryNeedsUptoCardSaid : Prop := Claim7.holds Tryz.pinned (.plain (OpenSpec.upto historyNeedsSpec)) historyNeedsUptoCard

/-- THE SECOND FORM's CARD OF 'setsquarelaw53.HistoryFull'. -/
def historyFullUptoCard : Claim7 := { stood := { row := historyFullUptoRow, standIns := [], harness := (true, "3d11a4bf1dee2d66407522a903d62afb625a42b086ed699c822710aab6d4fdf7"), looks := false }, kinds := [], alts := [], laidByText := true, laidKinds := [.data, .data, .data, .data], laidTests := true, laidLooks := .later }
def HistoryFullUptoCardSaid : Prop := Claim7.holds Tryz.pinned (.plain (OpenSpec.upto historyFullSpec)) historyFullUptoCard

/-- THE SECOND FORM's CARD OF 'setsquarelaw53.HistoryOps'. -/
def historyOpsUptoCard : Claim7 := { stood := { row := historyOpsUptoRow, standIns := [], harness := (true, "3d11a4bf1dee2d66407522a903d62afb625a42b086ed699c822710aab6d4fdf7"), looks := false }, kinds := [], alts := [], laidByText := true, laidKinds := [.data, .data, .data, .data], laidTests := true, laidLooks := .later }
def HistoryOpsUptoCardSaid : Prop := Claim7.holds Tryz.pinned (.plain (OpenSpec.upto historyOpsSpec)) historyOpsUptoCard

/-- THE SECOND FORM's CARD OF 'setsquarelaw53.HistoryValid'. -/
def historyValidUptoCard : Claim7 := { stood := { row := historyValidUptoRow, standIns := [], harness := (true, "3d11a4bf1dee2d66407522a903d62afb625a42b086ed699c822710aab6d4fdf7"), looks := false }, kinds := [], alts := [], laidByText := true, laidKinds := [.data, .data, .data, .data], laidTests := true, laidLooks := .later }
def HistoryValidUptoCardSaid : Prop := Claim7.holds Tryz.pinned (.plain (OpenSpec.upto historyValidSpec)) historyValidUptoCard

/-- THE SECOND FORM's CARD OF 'setsquarelaw53.HistoryUndoAll'. -/
def historyUndoAllUptoCard : Claim7 := { stood := { row := historyUndoAllUptoRow, standIns := [], harness := (true, "3d11a4bf1dee2d66407522a903d62afb625a42b086ed699c822710aab6d4fdf7"), looks := false }, kinds := [], alts := [], laidByText := true, laidKinds := [.data, .data, .data, .data], laidTests := true, laidLooks := .later }
def HistoryUndoAllUptoCardSaid : Prop := Claim7.holds Tryz.pinned (.plain (OpenSpec.upto historyUndoAllSpec)) historyUndoAllUptoCard

/-- THE SECOND FORM's CARD OF 'setsquarelaw53.HistoryNoAliasing'. -/
def historyNoAliasingUptoCard : Claim7 := { stood := { row := historyNoAliasingUptoRow, standIns := [], harness := (true, "3d11a4bf1dee2d66407522a903d62afb625a42b086ed699c822710aab6d4fdf7"), looks := false }, kinds := [], alts := [], laidByText := true, laidKinds := [.data, .data, .data, .data], laidTests := true, laidLooks := .later }
def HistoryNoAliasingUptoCardSaid : Prop := Claim7.holds Tryz.pinned (.plain (OpenSpec.upto historyNoAliasingSpec)) historyNoAliasingUptoCard
end Rows
end Go.Proofs.YtcomlgfjnjpebaaGreatDoor
