/-
  DERIVED. GIVEN WITH THE SEED: THE CARDS: each row of YtlhdndnohmikeaaGreatDoorRows.lean that lists a variable, with what it lists TIED to the program's text (the seventh form; the later family's looks); each row that meets fmt, with fmt's text TOLD by the authors' own Lean function (tested against real Go, not proved from fmt's source: count such statements apart). THE CARD IS WHAT COUNTS. Prove the row's statement (the work); the ties are given (YtlhdndnohmikeaaGreatDoorTie.lean); close each card by the builder's one call (the guide's Derived/Test/ToyasCard.lean, 'card_holds'). Laid BY PROGRAM, IN A SANDBOX (cutbox-door.mjs). By AI agents, Wed Nov 11 2026. No macro, syntax, notation, axiom, sorry.
-/
import Derived.Test.YtlhdndnohmikeaaGreatDoorRows
import GoSem.ClaimSeven
namespace Go.Proofs.YtlhdndnohmikeaaGreatDoor
namespace Rows

/-- THE TIED CARD OF 'decklelaw14.WriterActs'. -/
def writerActsCard : Claim7 := { stood := { row := writerActsRow, standIns := [], harness := (true, "80246a6b09f3ca545dafd610ced4365cfdd0d54e436272bcb86c30acfbe0ed4a"), looks := true }, kinds := [], alts := [], laidByText := true, laidKinds := [.data, .widerDeep, .widerDeep, .pinned], laidTests := true, laidLooks := .later }
def WriterActsCardSaid : Prop := Claim7.holds Tryz.pinned (.plain (OpenSpec.ofChange writerActsSpec)) writerActsCard

/-- THE TIED CARD OF 'decklelaw13.TraceCuts'. -/
def traceCutsCard : Claim7 := { stood := { row := traceCutsRow, standIns := [], harness := (true, "80246a6b09f3ca545dafd610ced4365cfdd0d54e436272bcb86c30acfbe0ed4a"), looks := true }, kinds := [], alts := [], laidByText := true, laidKinds := [.data, .widerDeep, .widerDeep, .pinned], laidTests := true, laidLooks := .later }
def TraceCutsCardSaid : Prop := Claim7.holds Tryz.pinned (.plain (OpenSpec.ofChange traceCutsSpec)) traceCutsCard

/-- THE TIED CARD OF 'decklelaw13.TraceSwaps'. -/
def traceSwapsCard : Claim7 := { stood := { row := traceSwapsRow, standIns := [], harness := (true, "80246a6b09f3ca545dafd610ced4365cfdd0d54e436272bcb86c30acfbe0ed4a"), looks := true }, kinds := [], alts := [], laidByText := true, laidKinds := [.data, .widerDeep, .widerDeep, .pinned], laidTests := true, laidLooks := .later }
def TraceSwapsCardSaid : Prop := Claim7.holds Tryz.pinned (.plain (OpenSpec.ofChange traceSwapsSpec)) traceSwapsCard

/-- THE TIED CARD OF 'decklelaw13.TraceViews'. -/
def traceViewsCard : Claim7 := { stood := { row := traceViewsRow, standIns := [], harness := (true, "80246a6b09f3ca545dafd610ced4365cfdd0d54e436272bcb86c30acfbe0ed4a"), looks := true }, kinds := [], alts := [], laidByText := true, laidKinds := [.data, .widerDeep, .widerDeep, .pinned], laidTests := true, laidLooks := .later }
def TraceViewsCardSaid : Prop := Claim7.holds Tryz.pinned (.plain (OpenSpec.ofChange traceViewsSpec)) traceViewsCard

/-- THE TIED CARD OF 'decklelaw14.WriterTraces'. -/
def writerTracesCard : Claim7 := { stood := { row := writerTracesRow, standIns := [], harness := (true, "80246a6b09f3ca545dafd610ced4365cfdd0d54e436272bcb86c30acfbe0ed4a"), looks := true }, kinds := [], alts := [], laidByText := true, laidKinds := [.data, .widerDeep, .widerDeep, .pinned], laidTests := true, laidLooks := .later }
def WriterTracesCardSaid : Prop := Claim7.holds Tryz.pinned (.plain (OpenSpec.ofChange writerTracesSpec)) writerTracesCard

/-- THE TIED CARD OF 'decklelaw18.CursorPlaces'. -/
def cursorPlacesCard : Claim7 := { stood := { row := cursorPlacesRow, standIns := [], harness := (true, "80246a6b09f3ca545dafd610ced4365cfdd0d54e436272bcb86c30acfbe0ed4a"), looks := true }, kinds := [], alts := [], laidByText := true, laidKinds := [.data, .widerDeep, .widerDeep, .pinned], laidTests := true, laidLooks := .later }
def CursorPlacesCardSaid : Prop := Claim7.holds Tryz.pinned (.plain (OpenSpec.ofChange cursorPlacesSpec)) cursorPlacesCard

/-- THE TIED CARD OF 'decklelaw18.CursorEnds'. -/
def cursorEndsCard : Claim7 := { stood := { row := cursorEndsRow, standIns := [], harness := (true, "80246a6b09f3ca545dafd610ced4365cfdd0d54e436272bcb86c30acfbe0ed4a"), looks := true }, kinds := [], alts := [], laidByText := true, laidKinds := [.data, .widerDeep, .widerDeep, .pinned], laidTests := true, laidLooks := .later }
def CursorEndsCardSaid : Prop := Claim7.holds Tryz.pinned (.plain (OpenSpec.ofChange cursorEndsSpec)) cursorEndsCard

/-- THE TIED CARD OF 'decklelaw19.PlanOver'. -/
def planOverCard : Claim7 := { stood := { row := planOverRow, standIns := [], harness := (true, "80246a6b09f3ca545dafd610ced4365cfdd0d54e436272bcb86c30acfbe0ed4a"), looks := true }, kinds := [], alts := [], laidByText := true, laidKinds := [.data, .widerDeep, .widerDeep, .pinned], laidTests := true, laidLooks := .later }
def PlanOverCardSaid : Prop := Claim7.holds Tryz.pinned (.plain (OpenSpec.ofChange planOverSpec)) planOverCard

/-- THE TIED CARD OF 'decklelaw19.PlanMost'. -/
def planMostCard : Claim7 := { stood := { row := planMostRow, standIns := [], harness := (true, "80246a6b09f3ca545dafd610ced4365cfdd0d54e436272bcb86c30acfbe0ed4a"), looks := true }, kinds := [], alts := [], laidByText := true, laidKinds := [.data, .widerDeep, .widerDeep, .pinned], laidTests := true, laidLooks := .later }
def PlanMostCardSaid : Prop := Claim7.holds Tryz.pinned (.plain (OpenSpec.ofChange planMostSpec)) planMostCard

/-- THE TIED CARD OF 'decklelaw14.WriterReopens'. -/
def writerReopensCard : Claim7 := { stood := { row := writerReopensRow, standIns := [], harness := (true, "80246a6b09f3ca545dafd610ced4365cfdd0d54e436272bcb86c30acfbe0ed4a"), looks := true }, kinds := [], alts := [], laidByText := true, laidKinds := [.data, .widerDeep, .widerDeep, .pinned], laidTests := true, laidLooks := .later }
def WriterReopensCardSaid : Prop := Claim7.holds Tryz.pinned (.plain (OpenSpec.ofChange writerReopensSpec)) writerReopensCard

/-- THE TIED CARD OF 'decklelaw19.PlanChanges'. -/
def planChangesCard : Claim7 := { stood := { row := planChangesRow, standIns := [], harness := (true, "80246a6b09f3ca545dafd610ced4365cfdd0d54e436272bcb86c30acfbe0ed4a"), looks := true }, kinds := [], alts := [], laidByText := true, laidKinds := [.data, .widerDeep, .widerDeep, .pinned], laidTests := true, laidLooks := .later }
def PlanChangesCardSaid : Prop := Claim7.holds Tryz.pinned (.plain (OpenSpec.ofChange planChangesSpec)) planChangesCard

/-- THE TIED CARD OF 'decklelaw19.PlanFolds'. -/
def planFoldsCard : Claim7 := { stood := { row := planFoldsRow, standIns := [], harness := (true, "80246a6b09f3ca545dafd610ced4365cfdd0d54e436272bcb86c30acfbe0ed4a"), looks := true }, kinds := [], alts := [], laidByText := true, laidKinds := [.data, .widerDeep, .widerDeep, .pinned], laidTests := true, laidLooks := .later }
def PlanFoldsCardSaid : Prop := Claim7.holds Tryz.pinned (.plain (OpenSpec.ofChange planFoldsSpec)) planFoldsCard

/-- THE SECOND FORM's CARD OF 'decklelaw14.WriterActs'. -/
def writerActsUptoCard : Claim7 := { stood := { row := writerActsUptoRow, standIns := [], harness := (true, "80246a6b09f3ca545dafd610ced4365cfdd0d54e436272bcb86c30acfbe0ed4a"), looks := true }, kinds := [], alts := [], laidByText := true, laidKinds := [.data, .widerDeep, .widerDeep, .pinned], laidTests := true, laidLooks := .later }
def WriterActsUptoCardSaid : Prop := Claim7.holds Tryz.pinned (.plain (OpenSpec.upto writerActsSpec)) writerActsUptoCard

/-- THE SECOND FORM's CARD OF 'decklelaw13.TraceCuts'. -/
def traceCutsUptoCard : Claim7 := { stood := { row := traceCutsUptoRow, standIns := [], harness := (true, "80246a6b09f3ca545dafd610ced4365cfdd0d54e436272bcb86c30acfbe0ed4a"), looks := true }, kinds := [], alts := [], laidByText := true, laidKinds := [.data, .widerDeep, .widerDeep, .pinned], laidTests := true, laidLooks := .later }
def TraceCutsUptoCardSaid : Prop := Claim7.holds Tryz.pinned (.plain (OpenSpec.upto traceCutsSpec)) traceCutsUptoCard

/-- THE SECOND FORM's CARD OF 'decklelaw13.TraceSwaps'. -/
def traceSwapsUptoCard : Claim7 := { stood := { row := traceSwapsUptoRow, standIns := [], harness := (true, "80246a6b09f3ca545dafd610ced4365cfdd0d54e436272bcb86c30acfbe0ed4a"), looks := true }, kinds := [], alts := [], laidByText := true, laidKinds := [.data, .widerDeep, .widerDeep, .pinned], laidTests := true, laidLooks := .later }
def TraceSwapsUptoCardSaid : Prop := Claim7.holds Tryz.pinned (.plain (OpenSpec.upto traceSwapsSpec)) traceSwapsUptoCard

/-- THE SECOND FORM's CARD OF 'decklelaw13.TraceViews'. -/
def traceViewsUptoCard : Claim7 := { stood := { row := traceViewsUptoRow, standIns := [], harness := (true, "80246a6b09f3ca545dafd610ced4365cfdd0d54e436272bcb86c30acfbe0ed4a"), looks := true }, kinds := [], alts := [], laidByText := true, laidKinds := [.data, .widerDeep, .widerDeep, .pinned], laidTests := true, laidLooks := .later }
def TraceViewsUptoCardSaid : Prop := Claim7.holds Tryz.pinned (.plain (OpenSpec.upto traceViewsSpec)) traceViewsUptoCard

/-- THE SECOND FORM's CARD OF 'decklelaw14.WriterTraces'. -/
def writerTracesUptoCard : Claim7 := { stood := { row := writerTracesUptoRow, standIns := [], harness := (true, "80246a6b09f3ca545dafd610ced4365cfdd0d54e436272bcb86c30acfbe0ed4a"), looks := true }, kinds := [], alts := [], laidByText := true, laidKinds := [.data, .widerDeep, .widerDeep, .pinned], laidTests := true, laidLooks := .later }
def WriterTracesUptoCardSaid : Prop := Claim7.holds Tryz.pinned (.plain (OpenSpec.upto writerTracesSpec)) writerTracesUptoCard

/-- THE SECOND FORM's CARD OF 'decklelaw18.CursorPlaces'. -/
def cursorPlacesUptoCard : Claim7 := { stood := { row := cursorPlacesUptoRow, standIns := [], harness := (true, "80246a6b09f3ca545dafd610ced4365cfdd0d54e436272bcb86c30acfbe0ed4a"), looks := true }, kinds := [], alts := [], laidByText := true, laidKinds := [.data, .widerDeep, .widerDeep, .pinned], laidTests := true, laidLooks := .later }
def CursorPlacesUptoCardSaid : Prop := Claim7.holds Tryz.pinned (.plain (OpenSpec.upto cursorPlacesSpec)) cursorPlacesUptoCard

/-- THE SECOND FORM's CARD OF 'decklelaw18.CursorEnds'. -/
def cursorEndsUptoCard : Claim7 := { stood := { row := cursorEndsUptoRow, standIns := [], harness := (true, "80246a6b09f3ca545dafd610ced4365cfdd0d54e436272bcb86c30acfbe0ed4a"), looks := true }, kinds := [], alts := [], laidByText := true, laidKinds := [.data, .widerDeep, .widerDeep, .pinned], laidTests := true, laidLooks := .later }
def CursorEndsUptoCardSaid : Prop := Claim7.holds Tryz.pinned (.plain (OpenSpec.upto cursorEndsSpec)) cursorEndsUptoCard

/-- THE SECOND FORM's CARD OF 'decklelaw19.PlanOver'. -/
def planOverUptoCard : Claim7 := { stood := { row := planOverUptoRow, standIns := [], harness := (true, "80246a6b09f3ca545dafd610ced4365cfdd0d54e436272bcb86c30acfbe0ed4a"), looks := true }, kinds := [], alts := [], laidByText := true, laidKinds := [.data, .widerDeep, .widerDeep, .pinned], laidTests := true, laidLooks := .later }
def PlanOverUptoCardSaid : Prop := Claim7.holds Tryz.pinned (.plain (OpenSpec.upto planOverSpec)) planOverUptoCard

/-- THE SECOND FORM's CARD OF 'decklelaw19.PlanMost'. -/
def planMostUptoCard : Claim7 := { stood := { row := planMostUptoRow, standIns := [], harness := (true, "80246a6b09f3ca545dafd610ced4365cfdd0d54e436272bcb86c30acfbe0ed4a"), looks := true }, kinds := [], alts := [], laidByText := true, laidKinds := [.data, .widerDeep, .widerDeep, .pinned], laidTests := true, laidLooks := .later }
def PlanMostUptoCardSaid : Prop := Claim7.holds Tryz.pinned (.plain (OpenSpec.upto planMostSpec)) planMostUptoCard

/-- THE SECOND FORM's CARD OF 'decklelaw14.WriterReopens'. -/
def writerReopensUptoCard : Claim7 := { stood := { row := writerReopensUptoRow, standIns := [], harness := (true, "80246a6b09f3ca545dafd610ced4365cfdd0d54e436272bcb86c30acfbe0ed4a"), looks := true }, kinds := [], alts := [], laidByText := true, laidKinds := [.data, .widerDeep, .widerDeep, .pinned], laidTests := true, laidLooks := .later }
def WriterReopensUptoCardSaid : Prop := Claim7.holds Tryz.pinned (.plain (OpenSpec.upto writerReopensSpec)) writerReopensUptoCard

/-- THE SECOND FORM's CARD OF 'decklelaw19.PlanChanges'. -/
def planChangesUptoCard : Claim7 := { stood := { row := planChangesUptoRow, standIns := [], harness := (true, "80246a6b09f3ca545dafd610ced4365cfdd0d54e436272bcb86c30acfbe0ed4a"), looks := true }, kinds := [], alts := [], laidByText := true, laidKinds := [.data, .widerDeep, .widerDeep, .pinned], laidTests := true, laidLooks := .later }
def PlanChangesUptoCardSaid : Prop := Claim7.holds Tryz.pinned (.plain (OpenSpec.upto planChangesSpec)) planChangesUptoCard

/-- THE SECOND FORM's CARD OF 'decklelaw19.PlanFolds'. -/
def planFoldsUptoCard : Claim7 := { stood := { row := planFoldsUptoRow, standIns := [], harness := (true, "80246a6b09f3ca545dafd610ced4365cfdd0d54e436272bcb86c30acfbe0ed4a"), looks := true }, kinds := [], alts := [], laidByText := true, laidKinds := [.data, .widerDeep, .widerDeep, .pinned], laidTests := true, laidLooks := .later }
def PlanFoldsUptoCardSaid : Prop := Claim7.holds Tryz.pinned (.plain (OpenSpec.upto planFoldsSpec)) planFoldsUptoCard
end Rows
end Go.Proofs.YtlhdndnohmikeaaGreatDoor
