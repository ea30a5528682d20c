/-
  DERIVED. GIVEN WITH THE SEED: THE CARDS: each row of YtabpbpdhapaffaaGreatDoorRows.lean that lists a variable, with what it lists TIED to the program's text (the seventh form; the later family's looks); each row that meets fmt, with fmt's text TOLD by the authors' own Lean function (tested against real Go, not proved from fmt's source: count such statements apart). THE CARD IS WHAT COUNTS. Prove the row's statement (the work); the ties are given (YtabpbpdhapaffaaGreatDoorTie.lean); close each card by the builder's one call (the guide's Derived/Test/ToyasCard.lean, 'card_holds'). Laid BY PROGRAM, IN A SANDBOX (cutbox-door.mjs). By AI agents, Wed Nov 11 2026. No macro, syntax, notation, axiom, sorry.
-/
import Derived.Test.YtabpbpdhapaffaaGreatDoorRows
import GoSem.ClaimSeven
namespace Go.Proofs.YtabpbpdhapaffaaGreatDoor
namespace Rows

/-- THE TIED CARD OF 'gristlaw22.EngineKinds'. -/
def engineKindsCard : Claim7 := { stood := { row := engineKindsRow, standIns := [], harness := (true, "1bd5727939eb60332ba23d63a6f49e8c14776e1f2ea46ff6c5eb7d806c18cbe3"), looks := false }, kinds := [], alts := [], laidByText := true, laidKinds := [.data, .data, .data], laidTests := true, laidLooks := .later }
def EngineKindsCardSaid : Prop := Claim7.holds Tryz.pinned (.plain (OpenSpec.ofChange engineKindsSpec)) engineKindsCard

/-- THE TIED CARD OF 'gristlaw22.EngineRooms'. -/
def engineRoomsCard : Claim7 := { stood := { row := engineRoomsRow, standIns := [], harness := (true, "1bd5727939eb60332ba23d63a6f49e8c14776e1f2ea46ff6c5eb7d806c18cbe3"), looks := false }, kinds := [], alts := [], laidByText := true, laidKinds := [.data, .data, .data], laidTests := true, laidLooks := .later }
def EngineRoomsCardSaid : Prop := Claim7.holds Tryz.pinned (.plain (OpenSpec.ofChange engineRoomsSpec)) engineRoomsCard

/-- THE TIED CARD OF 'gristlaw22.EngineNotes'. -/
def engineNotesCard : Claim7 := { stood := { row := engineNotesRow, standIns := [], harness := (true, "1bd5727939eb60332ba23d63a6f49e8c14776e1f2ea46ff6c5eb7d806c18cbe3"), looks := false }, kinds := [], alts := [], laidByText := true, laidKinds := [.data, .data, .data], laidTests := true, laidLooks := .later }
def EngineNotesCardSaid : Prop := Claim7.holds Tryz.pinned (.plain (OpenSpec.ofChange engineNotesSpec)) engineNotesCard

/-- THE TIED CARD OF 'gristlaw22.EnginePlays'. -/
def enginePlaysCard : Claim7 := { stood := { row := enginePlaysRow, standIns := [], harness := (true, "1bd5727939eb60332ba23d63a6f49e8c14776e1f2ea46ff6c5eb7d806c18cbe3"), looks := false }, kinds := [], alts := [], laidByText := true, laidKinds := [.data, .data, .data], laidTests := true, laidLooks := .later }
def EnginePlaysCardSaid : Prop := Claim7.holds Tryz.pinned (.plain (OpenSpec.ofChange enginePlaysSpec)) enginePlaysCard

/-- THE TIED CARD OF 'gristlaw22.EngineAll'. -/
def engineAllCard : Claim7 := { stood := { row := engineAllRow, standIns := [], harness := (true, "1bd5727939eb60332ba23d63a6f49e8c14776e1f2ea46ff6c5eb7d806c18cbe3"), looks := false }, kinds := [], alts := [], laidByText := true, laidKinds := [.data, .data, .data], laidTests := true, laidLooks := .later }
def EngineAllCardSaid : Prop := Claim7.holds Tryz.pinned (.plain (OpenSpec.ofChange engineAllSpec)) engineAllCard

/-- THE TIED CARD OF 'gristlaw22.EngineTwice'. -/
def engineTwiceCard : Claim7 := { stood := { row := engineTwiceRow, standIns := [], harness := (true, "1bd5727939eb60332ba23d63a6f49e8c14776e1f2ea46ff6c5eb7d806c18cbe3"), looks := false }, kinds := [], alts := [], laidByText := true, laidKinds := [.data, .data, .data], laidTests := true, laidLooks := .later }
def EngineTwiceCardSaid : Prop := Claim7.holds Tryz.pinned (.plain (OpenSpec.ofChange engineTwiceSpec)) engineTwiceCard

/-- THE TIED CARD OF 'gristlaw22.EngineMerges'. -/
def engineMergesCard : Claim7 := { stood := { row := engineMergesRow, standIns := [], harness := (true, "1bd5727939eb60332ba23d63a6f49e8c14776e1f2ea46ff6c5eb7d806c18cbe3"), looks := false }, kinds := [], alts := [], laidByText := true, laidKinds := [.data, .data, .data], laidTests := true, laidLooks := .later }
def EngineMergesCardSaid : Prop := Claim7.holds Tryz.pinned (.plain (OpenSpec.ofChange engineMergesSpec)) engineMergesCard

/-- THE TIED CARD OF 'gristlaw22.EngineNil'. -/
def engineNilCard : Claim7 := { stood := { row := engineNilRow, standIns := [], harness := (true, "1bd5727939eb60332ba23d63a6f49e8c14776e1f2ea46ff6c5eb7d806c18cbe3"), looks := false }, kinds := [], alts := [], laidByText := true, laidKinds := [.data, .data, .data], laidTests := true, laidLooks := .later }
def EngineNilCardSaid : Prop := Claim7.holds Tryz.pinned (.plain (OpenSpec.ofChange engineNilSpec)) engineNilCard

/-- THE TIED CARD OF 'gristlaw22.EngineTables'. -/
def engineTablesCard : Claim7 := { stood := { row := engineTablesRow, standIns := [], harness := (true, "1bd5727939eb60332ba23d63a6f49e8c14776e1f2ea46ff6c5eb7d806c18cbe3"), looks := false }, kinds := [], alts := [], laidByText := true, laidKinds := [.data, .data, .data], laidTests := true, laidLooks := .later }
def EngineTablesCardSaid : Prop := Claim7.holds Tryz.pinned (.plain (OpenSpec.ofChange engineTablesSpec)) engineTablesCard

/-- THE SECOND FORM's CARD OF 'gristlaw22.EngineKinds'. -/
def engineKindsUptoCard : Claim7 := { stood := { row := engineKindsUptoRow, standIns := [], harness := (true, "1bd5727939eb60332ba23d63a6f49e8c14776e1f2ea46ff6c5eb7d806c18cbe3"), looks := false }, kinds := [], alts := [], laidByText := true, laidKinds := [.data, .data, .data], laidTests := true, laidLooks := .later }
def EngineKindsUptoCardSaid : Prop := Claim7.holds Tryz.pinned (.plain (OpenSpec.upto engineKindsSpec)) engineKindsUptoCard

/-- THE SECOND FORM's CARD OF 'gristlaw22.EngineRooms'. -/
def engineRoomsUptoCard : Claim7 := { stood := { row := engineRoomsUptoRow, standIns := [], harness := (true, "1bd5727939eb60332ba23d63a6f49e8c14776e1f2ea46ff6c5eb7d806c18cbe3"), looks := false }, kinds := [], alts := [], laidByText := true, laidKinds := [.data, .data, .data], laidTests := true, laidLooks := .later }
def EngineRoomsUptoCardSaid : Prop := Claim7.holds Tryz.pinned (.plain (OpenSpec.upto engineRoomsSpec)) engineRoomsUptoCard

/-- THE SECOND FORM's CARD OF 'gristlaw22.EngineNotes'. -/
def engineNotesUptoCard : Claim7 := { stood := { row := engineNotesUptoRow, standIns := [], harness := (true, "1bd5727939eb60332ba23d63a6f49e8c14776e1f2ea46ff6c5eb7d806c18cbe3"), looks := false }, kinds := [], alts := [], laidByText := true, laidKinds := [.data, .data, .data], laidTests := true, laidLooks := .later }
def EngineNotesUptoCardSaid : Prop := Claim7.holds Tryz.pinned (.plain (OpenSpec.upto engineNotesSpec)) engineNotesUptoCard

/-- THE SECOND FORM's CARD OF 'gristlaw22.EnginePlays'. -/
def enginePlaysUptoCard : Claim7 := { stood := { row := enginePlaysUptoRow, standIns := [], harness := (true, "1bd5727939eb60332ba23d63a6f49e8c14776e1f2ea46ff6c5eb7d806c18cbe3"), looks := false }, kinds := [], alts := [], laidByText := true, laidKinds := [.data, .data, .data], laidTests := true, laidLooks := .later }
def EnginePlaysUptoCardSaid : Prop := Claim7.holds Tryz.pinned (.plain (OpenSpec.upto enginePlaysSpec)) enginePlaysUptoCard

/-- THE SECOND FORM's CARD OF 'gristlaw22.EngineAll'. -/
def engineAllUptoCard : Claim7 := { stood := { row := engineAllUptoRow, standIns := [], harness := (true, "1bd5727939eb60332ba23d63a6f49e8c14776e1f2ea46ff6c5eb7d806c18cbe3"), looks := false }, kinds := [], alts := [], laidByText := true, laidKinds := [.data, .data, .data], laidTests := true, laidLooks := .later }
def EngineAllUptoCardSaid : Prop := Claim7.holds Tryz.pinned (.plain (OpenSpec.upto engineAllSpec)) engineAllUptoCard

/-- THE SECOND FORM's CARD OF 'gristlaw22.EngineTwice'. -/
def engineTwiceUptoCard : Claim7 := { stood := { row := engineTwiceUptoRow, standIns := [], harness := (true, "1bd5727939eb60332ba23d63a6f49e8c14776e1f2ea46ff6c5eb7d806c18cbe3"), looks := false }, kinds := [], alts := [], laidByText := true, laidKinds := [.data, .data, .data], laidTests := true, laidLooks := .later }
def EngineTwiceUptoCardSaid : Prop := Claim7.holds Tryz.pinned (.plain (OpenSpec.upto engineTwiceSpec)) engineTwiceUptoCard

/-- THE SECOND FORM's CARD OF 'gristlaw22.EngineMerges'. -/
def engineMergesUptoCard : Claim7 := { stood := { row := engineMergesUptoRow, standIns := [], harness := (true, "1bd5727939eb60332ba23d63a6f49e8c14776e1f2ea46ff6c5eb7d806c18cbe3"), looks := false }, kinds := [], alts := [], laidByText := true, laidKinds := [.data, .data, .data], laidTests := true, laidLooks := .later }
def EngineMergesUptoCardSaid : Prop := Claim7.holds Tryz.pinned (.plain (OpenSpec.upto engineMergesSpec)) engineMergesUptoCard

/-- THE SECOND FORM's CARD OF 'gristlaw22.EngineNil'. -/
def engineNilUptoCard : Claim7 := { stood := { row := engineNilUptoRow, standIns := [], harness := (true, "1bd5727939eb60332ba23d63a6f49e8c14776e1f2ea46ff6c5eb7d806c18cbe3"), looks := false }, kinds := [], alts := [], laidByText := true, laidKinds := [.data, .data, .data], laidTests := true, laidLooks := .later }
def EngineNilUptoCardSaid : Prop := Claim7.holds Tryz.pinned (.plain (OpenSpec.upto engineNilSpec)) engineNilUptoCard

/-- THE SECOND FORM's CARD OF 'gristlaw22.EngineTables'. -/
def engineTablesUptoCard : Claim7 := { stood := { row := engineTablesUptoRow, standIns := [], harness := (true, "1bd5727939eb60332ba23d63a6f49e8c14776e1f2ea46ff6c5eb7d806c18cbe3"), looks := false }, kinds := [], alts := [], laidByText := true, laidKinds := [.data, .data, .data], laidTests := true, laidLooks := .later }
def EngineTablesUptoCardSaid : Prop := Claim7.holds Tryz.pinned (.plain (OpenSpec.upto engineTablesSpec)) engineTablesUptoCard
end Rows
end Go.Proofs.YtabpbpdhapaffaaGreatDoor
