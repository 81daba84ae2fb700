/-
  NARROWER THAN 'FOR EVERY INPUT', by the rows' own cells (each row's printed sentence says how): WriterActs: laid · TraceCuts: laid · TraceSwaps: laid · TraceViews: laid · WriterTraces: laid · CursorPlaces: laid · CursorEnds: laid · PlanOver: laid · PlanMost: laid · WriterReopens: laid · PlanChanges: laid · PlanFolds: laid.
  DERIVED. THE GIVEN ROWS OF THIS SEAT. 12 by the template 'for every input the law returns true; each argument reads behind the call as it read before'; 0 by the template 'total and deterministic' (their statements: YtlhdndnohmikeaaGreatDoorTotals.lean).
  GIVEN WITH THE SEED: the statements are not yours to turn. If you find one false, say at which input.
  Laid BY PROGRAM, IN A SANDBOX (cutbox-rows.mjs): the forced cells as the released guide's own fill.sh prints them over the translation 10a7bae2068e009f… (all of the seat's roots in one cut). By AI agents, Wed Nov 11 2026. No macro, syntax, notation, axiom, sorry.
-/
import Derived.Test.YtlhdndnohmikeaaGreatDoorChecked
import GoSem.PinnedTables
import GoSem.Claim
import GoSem.ClaimJoined
import GoSem.ClaimMapViews
import Derived.JoinedTies
import Derived.KernelRfl
namespace Go.Proofs.YtlhdndnohmikeaaGreatDoor
/- THE CELL 'sum', in the pinned program and in every row, IS THE sha256 OF THE DUMP (.gsa) THAT YtlhdndnohmikeaaGreatDoorProg.lean LOADS. Nothing in Lean hashes anything: it is a label: what it is worth is what the hold of that sum in a sandbox is worth. -/
noncomputable def Tryz.pinned : Pinned := { name := "ytlhdndnohmikeaagreatdoor", sum := "10a7bae2068e009f4137b4cd85d7468e2920d907d831a9c73b586751474063a3", checked := Tryz.checked }
namespace Rows
def none {H : Type} : Left H := { results := [], args := [] }

/- WHAT THE LISTED PACKAGE-LEVEL VARIABLES READ AS WHEN THE CALL BEGINS. Each datum BY PROGRAM (the guide's laid-datum.mjs) off the statement by which the dump's own 'gosem.cut.vars' lays the variable. In a bare row this is a premise. The card (YtlhdndnohmikeaaGreatDoorCards.lean) ties it to the program's text. -/
def laid_unicode_utf8_acceptRanges {H : Type} : DataW H := .agg [.agg [.lit (.int .u8 128), .lit (.int .u8 191)], .agg [.lit (.int .u8 160), .lit (.int .u8 191)], .agg [.lit (.int .u8 128), .lit (.int .u8 159)], .agg [.lit (.int .u8 144), .lit (.int .u8 191)], .agg [.lit (.int .u8 128), .lit (.int .u8 143)], .agg [.lit (.int .u8 0), .lit (.int .u8 0)], .agg [.lit (.int .u8 0), .lit (.int .u8 0)], .agg [.lit (.int .u8 0), .lit (.int .u8 0)], .agg [.lit (.int .u8 0), .lit (.int .u8 0)], .agg [.lit (.int .u8 0), .lit (.int .u8 0)], .agg [.lit (.int .u8 0), .lit (.int .u8 0)], .agg [.lit (.int .u8 0), .lit (.int .u8 0)], .agg [.lit (.int .u8 0), .lit (.int .u8 0)], .agg [.lit (.int .u8 0), .lit (.int .u8 0)], .agg [.lit (.int .u8 0), .lit (.int .u8 0)], .agg [.lit (.int .u8 0), .lit (.int .u8 0)]]
def laid_deckle_cell_names {H : Type} : DataW H := .agg [.lit (.string [105, 110, 116]), .lit (.string [117, 105, 110, 116]), .lit (.string [98, 111, 111, 108]), .lit (.string [98, 121, 116, 101, 115]), .lit (.string [116, 101, 120, 116]), .lit (.string [102, 108, 111, 97, 116])]
def laid_deckle_entry_frames {H : Type} : DataW H := .agg [.lit (.int .i64 2), .lit (.int .i64 1)]
/-- One of Go's own tables, pinned by name: the form's constant. -/
def laid_unicode_utf8_first : DataW Unit := Go.Pinned.utf8First

/-- 'decklelaw14.WriterActs': WHATEVER THE INPUT: true; the input reads as it did. -/
def writerActsSpec : ChangeSpec := { name := "writerActs", fn := fun _ => fun
  | [d1, d2] => { results := [.lit (.bool true)], args := [d1, d2] }
  | _ => none }
def writerActsRow : OpenClaim := { program := "ytlhdndnohmikeaagreatdoor", sum := "10a7bae2068e009f4137b4cd85d7468e2920d907d831a9c73b586751474063a3", func := "deckle/decklelaw14.WriterActs", spec := "writerActs", inPlace := ["internal/bytealg.IndexByteString", "internal/bytealg.IndexString", "internal/bytealg.abigen_runtime_cmpstring", "math/bits.Add64", "math.Float64frombits"], unfollowed := true, recurses := true, named := ["unicode/utf8.first", "unicode/utf8.acceptRanges", "deckle/cell.names", "deckle/entry.frames", "internal/bytealg.MaxLen"], apart := false, laid := [("unicode/utf8.acceptRanges", laid_unicode_utf8_acceptRanges), ("deckle/cell.names", laid_deckle_cell_names), ("deckle/entry.frames", laid_deckle_entry_frames), ("unicode/utf8.first", laid_unicode_utf8_first)] }
def WriterActsSaid : Prop := writerActsRow.holds Tryz.pinned (OpenSpec.ofChange writerActsSpec)

/-- ITS FALSE NEIGHBOUR: 'it returns false'. Refute it at one input. -/
def writerActsWrong : ChangeSpec := { name := "writerActs", fn := fun _ => fun
  | [d1, d2] => { results := [.lit (.bool false)], args := [d1, d2] }
  | _ => none }
def WriterActsWrongFalsely : Prop := writerActsRow.holds Tryz.pinned (OpenSpec.ofChange writerActsWrong)

/-- 'decklelaw13.TraceCuts': WHATEVER THE INPUT: true; the input reads as it did. -/
def traceCutsSpec : ChangeSpec := { name := "traceCuts", fn := fun _ => fun
  | [d] => { results := [.lit (.bool true)], args := [d] }
  | _ => none }
def traceCutsRow : OpenClaim := { program := "ytlhdndnohmikeaagreatdoor", sum := "10a7bae2068e009f4137b4cd85d7468e2920d907d831a9c73b586751474063a3", func := "deckle/decklelaw13.TraceCuts", spec := "traceCuts", inPlace := ["internal/bytealg.IndexByteString", "internal/bytealg.IndexString", "internal/bytealg.abigen_runtime_cmpstring", "math/bits.Add64"], unfollowed := true, recurses := true, named := ["unicode/utf8.first", "unicode/utf8.acceptRanges", "deckle/cell.names", "deckle/entry.frames", "internal/bytealg.MaxLen"], apart := false, laid := [("unicode/utf8.acceptRanges", laid_unicode_utf8_acceptRanges), ("deckle/cell.names", laid_deckle_cell_names), ("deckle/entry.frames", laid_deckle_entry_frames), ("unicode/utf8.first", laid_unicode_utf8_first)] }
def TraceCutsSaid : Prop := traceCutsRow.holds Tryz.pinned (OpenSpec.ofChange traceCutsSpec)

/-- ITS FALSE NEIGHBOUR: 'it returns false'. Refute it at one input. -/
def traceCutsWrong : ChangeSpec := { name := "traceCuts", fn := fun _ => fun
  | [d] => { results := [.lit (.bool false)], args := [d] }
  | _ => none }
def TraceCutsWrongFalsely : Prop := traceCutsRow.holds Tryz.pinned (OpenSpec.ofChange traceCutsWrong)

/-- 'decklelaw13.TraceSwaps': WHATEVER THE INPUT: true; the input reads as it did. -/
def traceSwapsSpec : ChangeSpec := { name := "traceSwaps", fn := fun _ => fun
  | [d1, d2] => { results := [.lit (.bool true)], args := [d1, d2] }
  | _ => none }
def traceSwapsRow : OpenClaim := { program := "ytlhdndnohmikeaagreatdoor", sum := "10a7bae2068e009f4137b4cd85d7468e2920d907d831a9c73b586751474063a3", func := "deckle/decklelaw13.TraceSwaps", spec := "traceSwaps", inPlace := ["internal/bytealg.IndexByteString", "internal/bytealg.IndexString", "internal/bytealg.abigen_runtime_cmpstring", "math/bits.Add64"], unfollowed := true, recurses := true, named := ["unicode/utf8.first", "unicode/utf8.acceptRanges", "deckle/cell.names", "deckle/entry.frames", "internal/bytealg.MaxLen"], apart := false, laid := [("unicode/utf8.acceptRanges", laid_unicode_utf8_acceptRanges), ("deckle/cell.names", laid_deckle_cell_names), ("deckle/entry.frames", laid_deckle_entry_frames), ("unicode/utf8.first", laid_unicode_utf8_first)] }
def TraceSwapsSaid : Prop := traceSwapsRow.holds Tryz.pinned (OpenSpec.ofChange traceSwapsSpec)

/-- ITS FALSE NEIGHBOUR: 'it returns false'. Refute it at one input. -/
def traceSwapsWrong : ChangeSpec := { name := "traceSwaps", fn := fun _ => fun
  | [d1, d2] => { results := [.lit (.bool false)], args := [d1, d2] }
  | _ => none }
def TraceSwapsWrongFalsely : Prop := traceSwapsRow.holds Tryz.pinned (OpenSpec.ofChange traceSwapsWrong)

/-- 'decklelaw13.TraceViews': WHATEVER THE INPUT: true; the input reads as it did. -/
def traceViewsSpec : ChangeSpec := { name := "traceViews", fn := fun _ => fun
  | [d] => { results := [.lit (.bool true)], args := [d] }
  | _ => none }
def traceViewsRow : OpenClaim := { program := "ytlhdndnohmikeaagreatdoor", sum := "10a7bae2068e009f4137b4cd85d7468e2920d907d831a9c73b586751474063a3", func := "deckle/decklelaw13.TraceViews", spec := "traceViews", inPlace := ["internal/bytealg.IndexByteString", "internal/bytealg.IndexString", "internal/bytealg.abigen_runtime_cmpstring", "math/bits.Add64"], unfollowed := true, recurses := true, named := ["unicode/utf8.first", "unicode/utf8.acceptRanges", "deckle/cell.names", "deckle/entry.frames", "internal/bytealg.MaxLen"], apart := false, laid := [("unicode/utf8.acceptRanges", laid_unicode_utf8_acceptRanges), ("deckle/cell.names", laid_deckle_cell_names), ("deckle/entry.frames", laid_deckle_entry_frames), ("unicode/utf8.first", laid_unicode_utf8_first)] }
def TraceViewsSaid : Prop := traceViewsRow.holds Tryz.pinned (OpenSpec.ofChange traceViewsSpec)

/-- ITS FALSE NEIGHBOUR: 'it returns false'. Refute it at one input. -/
def traceViewsWrong : ChangeSpec := { name := "traceViews", fn := fun _ => fun
  | [d] => { results := [.lit (.bool false)], args := [d] }
  | _ => none }
def TraceViewsWrongFalsely : Prop := traceViewsRow.holds Tryz.pinned (OpenSpec.ofChange traceViewsWrong)

/-- 'decklelaw14.WriterTraces': WHATEVER THE INPUT: true; the input reads as it did. -/
def writerTracesSpec : ChangeSpec := { name := "writerTraces", fn := fun _ => fun
  | [d1, d2] => { results := [.lit (.bool true)], args := [d1, d2] }
  | _ => none }
def writerTracesRow : OpenClaim := { program := "ytlhdndnohmikeaagreatdoor", sum := "10a7bae2068e009f4137b4cd85d7468e2920d907d831a9c73b586751474063a3", func := "deckle/decklelaw14.WriterTraces", spec := "writerTraces", inPlace := ["internal/bytealg.IndexByteString", "internal/bytealg.IndexString", "internal/bytealg.abigen_runtime_cmpstring", "math/bits.Add64"], unfollowed := true, recurses := true, named := ["unicode/utf8.first", "unicode/utf8.acceptRanges", "deckle/cell.names", "deckle/entry.frames", "internal/bytealg.MaxLen"], apart := false, laid := [("unicode/utf8.acceptRanges", laid_unicode_utf8_acceptRanges), ("deckle/cell.names", laid_deckle_cell_names), ("deckle/entry.frames", laid_deckle_entry_frames), ("unicode/utf8.first", laid_unicode_utf8_first)] }
def WriterTracesSaid : Prop := writerTracesRow.holds Tryz.pinned (OpenSpec.ofChange writerTracesSpec)

/-- ITS FALSE NEIGHBOUR: 'it returns false'. Refute it at one input. -/
def writerTracesWrong : ChangeSpec := { name := "writerTraces", fn := fun _ => fun
  | [d1, d2] => { results := [.lit (.bool false)], args := [d1, d2] }
  | _ => none }
def WriterTracesWrongFalsely : Prop := writerTracesRow.holds Tryz.pinned (OpenSpec.ofChange writerTracesWrong)

/-- 'decklelaw18.CursorPlaces': WHATEVER THE INPUT: true; the input reads as it did. -/
def cursorPlacesSpec : ChangeSpec := { name := "cursorPlaces", fn := fun _ => fun
  | [d1, d2] => { results := [.lit (.bool true)], args := [d1, d2] }
  | _ => none }
def cursorPlacesRow : OpenClaim := { program := "ytlhdndnohmikeaagreatdoor", sum := "10a7bae2068e009f4137b4cd85d7468e2920d907d831a9c73b586751474063a3", func := "deckle/decklelaw18.CursorPlaces", spec := "cursorPlaces", inPlace := ["internal/bytealg.IndexByteString", "internal/bytealg.IndexString", "internal/bytealg.abigen_runtime_cmpstring", "math/bits.Add64"], unfollowed := true, recurses := true, named := ["unicode/utf8.first", "unicode/utf8.acceptRanges", "deckle/cell.names", "deckle/entry.frames", "internal/bytealg.MaxLen"], apart := false, laid := [("unicode/utf8.acceptRanges", laid_unicode_utf8_acceptRanges), ("deckle/cell.names", laid_deckle_cell_names), ("deckle/entry.frames", laid_deckle_entry_frames), ("unicode/utf8.first", laid_unicode_utf8_first)] }
def CursorPlacesSaid : Prop := cursorPlacesRow.holds Tryz.pinned (OpenSpec.ofChange cursorPlacesSpec)

/-- ITS FALSE NEIGHBOUR: 'it returns false'. Refute it at one input. -/
def cursorPlacesWrong : ChangeSpec := { name := "cursorPlaces", fn := fun _ => fun
  | [d1, d2] => { results := [.lit (.bool false)], args := [d1, d2] }
  | _ => none }
def CursorPlacesWrongFalsely : Prop := cursorPlacesRow.holds Tryz.pinned (OpenSpec.ofChange cursorPlacesWrong)

/-- 'decklelaw18.CursorEnds': WHATEVER THE INPUT: true; the input reads as it did. -/
def cursorEndsSpec : ChangeSpec := { name := "cursorEnds", fn := fun _ => fun
  | [d] => { results := [.lit (.bool true)], args := [d] }
  | _ => none }
def cursorEndsRow : OpenClaim := { program := "ytlhdndnohmikeaagreatdoor", sum := "10a7bae2068e009f4137b4cd85d7468e2920d907d831a9c73b586751474063a3", func := "deckle/decklelaw18.CursorEnds", spec := "cursorEnds", inPlace := ["internal/bytealg.IndexByteString", "internal/bytealg.IndexString", "internal/bytealg.abigen_runtime_cmpstring", "math/bits.Add64"], unfollowed := true, recurses := true, named := ["unicode/utf8.first", "unicode/utf8.acceptRanges", "deckle/cell.names", "deckle/entry.frames", "internal/bytealg.MaxLen"], apart := false, laid := [("unicode/utf8.acceptRanges", laid_unicode_utf8_acceptRanges), ("deckle/cell.names", laid_deckle_cell_names), ("deckle/entry.frames", laid_deckle_entry_frames), ("unicode/utf8.first", laid_unicode_utf8_first)] }
def CursorEndsSaid : Prop := cursorEndsRow.holds Tryz.pinned (OpenSpec.ofChange cursorEndsSpec)

/-- ITS FALSE NEIGHBOUR: 'it returns false'. Refute it at one input. -/
def cursorEndsWrong : ChangeSpec := { name := "cursorEnds", fn := fun _ => fun
  | [d] => { results := [.lit (.bool false)], args := [d] }
  | _ => none }
def CursorEndsWrongFalsely : Prop := cursorEndsRow.holds Tryz.pinned (OpenSpec.ofChange cursorEndsWrong)

/-- 'decklelaw19.PlanOver': WHATEVER THE INPUT: true; the input reads as it did. -/
def planOverSpec : ChangeSpec := { name := "planOver", fn := fun _ => fun
  | [d1, d2] => { results := [.lit (.bool true)], args := [d1, d2] }
  | _ => none }
def planOverRow : OpenClaim := { program := "ytlhdndnohmikeaagreatdoor", sum := "10a7bae2068e009f4137b4cd85d7468e2920d907d831a9c73b586751474063a3", func := "deckle/decklelaw19.PlanOver", spec := "planOver", inPlace := ["internal/bytealg.IndexByteString", "internal/bytealg.IndexString", "internal/bytealg.abigen_runtime_cmpstring", "math/bits.Add64"], unfollowed := true, recurses := true, named := ["unicode/utf8.first", "unicode/utf8.acceptRanges", "deckle/cell.names", "deckle/entry.frames", "internal/bytealg.MaxLen"], apart := false, laid := [("unicode/utf8.acceptRanges", laid_unicode_utf8_acceptRanges), ("deckle/cell.names", laid_deckle_cell_names), ("deckle/entry.frames", laid_deckle_entry_frames), ("unicode/utf8.first", laid_unicode_utf8_first)] }
def PlanOverSaid : Prop := planOverRow.holds Tryz.pinned (OpenSpec.ofChange planOverSpec)

/-- ITS FALSE NEIGHBOUR: 'it returns false'. Refute it at one input. -/
def planOverWrong : ChangeSpec := { name := "planOver", fn := fun _ => fun
  | [d1, d2] => { results := [.lit (.bool false)], args := [d1, d2] }
  | _ => none }
def PlanOverWrongFalsely : Prop := planOverRow.holds Tryz.pinned (OpenSpec.ofChange planOverWrong)

/-- 'decklelaw19.PlanMost': WHATEVER THE INPUT: true; the input reads as it did. -/
def planMostSpec : ChangeSpec := { name := "planMost", fn := fun _ => fun
  | [d1, d2] => { results := [.lit (.bool true)], args := [d1, d2] }
  | _ => none }
def planMostRow : OpenClaim := { program := "ytlhdndnohmikeaagreatdoor", sum := "10a7bae2068e009f4137b4cd85d7468e2920d907d831a9c73b586751474063a3", func := "deckle/decklelaw19.PlanMost", spec := "planMost", inPlace := ["internal/bytealg.IndexByteString", "internal/bytealg.IndexString", "internal/bytealg.abigen_runtime_cmpstring", "math/bits.Add64"], unfollowed := true, recurses := true, named := ["unicode/utf8.first", "unicode/utf8.acceptRanges", "deckle/cell.names", "deckle/entry.frames", "internal/bytealg.MaxLen"], apart := false, laid := [("unicode/utf8.acceptRanges", laid_unicode_utf8_acceptRanges), ("deckle/cell.names", laid_deckle_cell_names), ("deckle/entry.frames", laid_deckle_entry_frames), ("unicode/utf8.first", laid_unicode_utf8_first)] }
def PlanMostSaid : Prop := planMostRow.holds Tryz.pinned (OpenSpec.ofChange planMostSpec)

/-- ITS FALSE NEIGHBOUR: 'it returns false'. Refute it at one input. -/
def planMostWrong : ChangeSpec := { name := "planMost", fn := fun _ => fun
  | [d1, d2] => { results := [.lit (.bool false)], args := [d1, d2] }
  | _ => none }
def PlanMostWrongFalsely : Prop := planMostRow.holds Tryz.pinned (OpenSpec.ofChange planMostWrong)

/-- 'decklelaw14.WriterReopens': WHATEVER THE INPUT: true; the input reads as it did. -/
def writerReopensSpec : ChangeSpec := { name := "writerReopens", fn := fun _ => fun
  | [d1, d2, d3] => { results := [.lit (.bool true)], args := [d1, d2, d3] }
  | _ => none }
def writerReopensRow : OpenClaim := { program := "ytlhdndnohmikeaagreatdoor", sum := "10a7bae2068e009f4137b4cd85d7468e2920d907d831a9c73b586751474063a3", func := "deckle/decklelaw14.WriterReopens", spec := "writerReopens", inPlace := ["internal/bytealg.IndexByteString", "internal/bytealg.IndexString", "internal/bytealg.abigen_runtime_cmpstring", "math/bits.Add64"], unfollowed := true, recurses := true, named := ["unicode/utf8.first", "unicode/utf8.acceptRanges", "deckle/cell.names", "deckle/entry.frames", "internal/bytealg.MaxLen"], apart := false, laid := [("unicode/utf8.acceptRanges", laid_unicode_utf8_acceptRanges), ("deckle/cell.names", laid_deckle_cell_names), ("deckle/entry.frames", laid_deckle_entry_frames), ("unicode/utf8.first", laid_unicode_utf8_first)] }
def WriterReopensSaid : Prop := writerReopensRow.holds Tryz.pinned (OpenSpec.ofChange writerReopensSpec)

/-- ITS FALSE NEIGHBOUR: 'it returns false'. Refute it at one input. -/
def writerReopensWrong : ChangeSpec := { name := "writerReopens", fn := fun _ => fun
  | [d1, d2, d3] => { results := [.lit (.bool false)], args := [d1, d2, d3] }
  | _ => none }
def WriterReopensWrongFalsely : Prop := writerReopensRow.holds Tryz.pinned (OpenSpec.ofChange writerReopensWrong)

/-- 'decklelaw19.PlanChanges': WHATEVER THE INPUT: true; the input reads as it did. -/
def planChangesSpec : ChangeSpec := { name := "planChanges", fn := fun _ => fun
  | [d1, d2, d3] => { results := [.lit (.bool true)], args := [d1, d2, d3] }
  | _ => none }
def planChangesRow : OpenClaim := { program := "ytlhdndnohmikeaagreatdoor", sum := "10a7bae2068e009f4137b4cd85d7468e2920d907d831a9c73b586751474063a3", func := "deckle/decklelaw19.PlanChanges", spec := "planChanges", inPlace := ["internal/bytealg.IndexByteString", "internal/bytealg.IndexString", "internal/bytealg.abigen_runtime_cmpstring", "math/bits.Add64", "math.Float64frombits"], unfollowed := true, recurses := true, named := ["unicode/utf8.first", "unicode/utf8.acceptRanges", "deckle/cell.names", "deckle/entry.frames", "internal/bytealg.MaxLen"], apart := false, laid := [("unicode/utf8.acceptRanges", laid_unicode_utf8_acceptRanges), ("deckle/cell.names", laid_deckle_cell_names), ("deckle/entry.frames", laid_deckle_entry_frames), ("unicode/utf8.first", laid_unicode_utf8_first)] }
def PlanChangesSaid : Prop := planChangesRow.holds Tryz.pinned (OpenSpec.ofChange planChangesSpec)

/-- ITS FALSE NEIGHBOUR: 'it returns false'. Refute it at one input. -/
def planChangesWrong : ChangeSpec := { name := "planChanges", fn := fun _ => fun
  | [d1, d2, d3] => { results := [.lit (.bool false)], args := [d1, d2, d3] }
  | _ => none }
def PlanChangesWrongFalsely : Prop := planChangesRow.holds Tryz.pinned (OpenSpec.ofChange planChangesWrong)

/-- 'decklelaw19.PlanFolds': WHATEVER THE INPUT: true; the input reads as it did. -/
def planFoldsSpec : ChangeSpec := { name := "planFolds", fn := fun _ => fun
  | [d1, d2] => { results := [.lit (.bool true)], args := [d1, d2] }
  | _ => none }
def planFoldsRow : OpenClaim := { program := "ytlhdndnohmikeaagreatdoor", sum := "10a7bae2068e009f4137b4cd85d7468e2920d907d831a9c73b586751474063a3", func := "deckle/decklelaw19.PlanFolds", spec := "planFolds", inPlace := ["internal/bytealg.IndexByteString", "internal/bytealg.IndexString", "internal/bytealg.abigen_runtime_cmpstring", "math/bits.Add64"], unfollowed := true, recurses := true, named := ["unicode/utf8.first", "unicode/utf8.acceptRanges", "deckle/cell.names", "deckle/entry.frames", "internal/bytealg.MaxLen"], apart := false, laid := [("unicode/utf8.acceptRanges", laid_unicode_utf8_acceptRanges), ("deckle/cell.names", laid_deckle_cell_names), ("deckle/entry.frames", laid_deckle_entry_frames), ("unicode/utf8.first", laid_unicode_utf8_first)] }
def PlanFoldsSaid : Prop := planFoldsRow.holds Tryz.pinned (OpenSpec.ofChange planFoldsSpec)

/-- ITS FALSE NEIGHBOUR: 'it returns false'. Refute it at one input. -/
def planFoldsWrong : ChangeSpec := { name := "planFolds", fn := fun _ => fun
  | [d1, d2] => { results := [.lit (.bool false)], args := [d1, d2] }
  | _ => none }
def PlanFoldsWrongFalsely : Prop := planFoldsRow.holds Tryz.pinned (OpenSpec.ofChange planFoldsWrong)

/- THE SECOND FORM. 'bulk': how many values and letters a reading holds, each counted each time it is reached (what is shared counts as often as it is met; a slice's spare places count too). A statement '..UptoSaid' is the law's where the arguments, and the package variables that the reading takes, are together of bulk at most 1048576: NARROWER than '..Said'. Prove '..Said' where nothing that the law and all that it calls make is longer than what came in: it says more and counts as full. Else prove '..UptoSaid'. A law counts once. -/
mutual
def uptoBulk {H : Type} : DataW H → Nat
  | .lit (.string bytes) => bytes.length + 1
  | .lit _ => 1
  | .nil => 1
  | .ptr d => uptoBulk d + 1
  | .slice elems spare => uptoBulkAll elems + uptoBulkAll spare + 1
  | .agg parts => uptoBulkAll parts + 1
  | .iface _ d => uptoBulk d + 1
  | .map entries => uptoBulkEntries entries + 1
  | .held _ => 1
def uptoBulkAll {H : Type} : List (DataW H) → Nat
  | [] => 0
  | d :: r => uptoBulk d + uptoBulkAll r
def uptoBulkEntries {H : Type} : List (Lit × DataW H) → Nat
  | [] => 0
  | x :: r => uptoBulkEntry x + uptoBulkEntries r
def uptoBulkEntry {H : Type} : Lit × DataW H → Nat
  | (.string bytes, d) => bytes.length + uptoBulk d + 1
  | (_, d) => uptoBulk d + 1
 end
def uptoSmall : (H : Type) → List (DataW H) → Bool := fun _ ds => decide (uptoBulkAll ds ≤ 1048576)
def OpenSpec.upto (s : _root_.Go.ChangeSpec) : _root_.Go.OpenSpec := { _root_.Go.OpenSpec.ofChange s with cond := some uptoSmall }

/-- 'decklelaw14.WriterActs', WHERE WHAT IT READS IS OF BULK AT MOST 1048576: true; the input reads as it did. -/
def writerActsUptoRow : OpenClaim := { program := "ytlhdndnohmikeaagreatdoor", sum := "10a7bae2068e009f4137b4cd85d7468e2920d907d831a9c73b586751474063a3", func := "deckle/decklelaw14.WriterActs", spec := "writerActs", inPlace := ["internal/bytealg.IndexByteString", "internal/bytealg.IndexString", "internal/bytealg.abigen_runtime_cmpstring", "math/bits.Add64", "math.Float64frombits"], unfollowed := true, recurses := true, named := ["unicode/utf8.first", "unicode/utf8.acceptRanges", "deckle/cell.names", "deckle/entry.frames", "internal/bytealg.MaxLen"], apart := false, laid := [("unicode/utf8.acceptRanges", laid_unicode_utf8_acceptRanges), ("deckle/cell.names", laid_deckle_cell_names), ("deckle/entry.frames", laid_deckle_entry_frames), ("unicode/utf8.first", laid_unicode_utf8_first)], narrowed := true }
def WriterActsUptoSaid : Prop := writerActsUptoRow.holds Tryz.pinned (OpenSpec.upto writerActsSpec)

/-- 'decklelaw13.TraceCuts', WHERE WHAT IT READS IS OF BULK AT MOST 1048576: true; the input reads as it did. -/
def traceCutsUptoRow : OpenClaim := { program := "ytlhdndnohmikeaagreatdoor", sum := "10a7bae2068e009f4137b4cd85d7468e2920d907d831a9c73b586751474063a3", func := "deckle/decklelaw13.TraceCuts", spec := "traceCuts", inPlace := ["internal/bytealg.IndexByteString", "internal/bytealg.IndexString", "internal/bytealg.abigen_runtime_cmpstring", "math/bits.Add64"], unfollowed := true, recurses := true, named := ["unicode/utf8.first", "unicode/utf8.acceptRanges", "deckle/cell.names", "deckle/entry.frames", "internal/bytealg.MaxLen"], apart := false, laid := [("unicode/utf8.acceptRanges", laid_unicode_utf8_acceptRanges), ("deckle/cell.names", laid_deckle_cell_names), ("deckle/entry.frames", laid_deckle_entry_frames), ("unicode/utf8.first", laid_unicode_utf8_first)], narrowed := true }
def TraceCutsUptoSaid : Prop := traceCutsUptoRow.holds Tryz.pinned (OpenSpec.upto traceCutsSpec)

/-- 'decklelaw13.TraceSwaps', WHERE WHAT IT READS IS OF BULK AT MOST 1048576: true; the input reads as it did. -/
def traceSwapsUptoRow : OpenClaim := { program := "ytlhdndnohmikeaagreatdoor", sum := "10a7bae2068e009f4137b4cd85d7468e2920d907d831a9c73b586751474063a3", func := "deckle/decklelaw13.TraceSwaps", spec := "traceSwaps", inPlace := ["internal/bytealg.IndexByteString", "internal/bytealg.IndexString", "internal/bytealg.abigen_runtime_cmpstring", "math/bits.Add64"], unfollowed := true, recurses := true, named := ["unicode/utf8.first", "unicode/utf8.acceptRanges", "deckle/cell.names", "deckle/entry.frames", "internal/bytealg.MaxLen"], apart := false, laid := [("unicode/utf8.acceptRanges", laid_unicode_utf8_acceptRanges), ("deckle/cell.names", laid_deckle_cell_names), ("deckle/entry.frames", laid_deckle_entry_frames), ("unicode/utf8.first", laid_unicode_utf8_first)], narrowed := true }
def TraceSwapsUptoSaid : Prop := traceSwapsUptoRow.holds Tryz.pinned (OpenSpec.upto traceSwapsSpec)

/-- 'decklelaw13.TraceViews', WHERE WHAT IT READS IS OF BULK AT MOST 1048576: true; the input reads as it did. -/
def traceViewsUptoRow : OpenClaim := { program := "ytlhdndnohmikeaagreatdoor", sum := "10a7bae2068e009f4137b4cd85d7468e2920d907d831a9c73b586751474063a3", func := "deckle/decklelaw13.TraceViews", spec := "traceViews", inPlace := ["internal/bytealg.IndexByteString", "internal/bytealg.IndexString", "internal/bytealg.abigen_runtime_cmpstring", "math/bits.Add64"], unfollowed := true, recurses := true, named := ["unicode/utf8.first", "unicode/utf8.acceptRanges", "deckle/cell.names", "deckle/entry.frames", "internal/bytealg.MaxLen"], apart := false, laid := [("unicode/utf8.acceptRanges", laid_unicode_utf8_acceptRanges), ("deckle/cell.names", laid_deckle_cell_names), ("deckle/entry.frames", laid_deckle_entry_frames), ("unicode/utf8.first", laid_unicode_utf8_first)], narrowed := true }
def TraceViewsUptoSaid : Prop := traceViewsUptoRow.holds Tryz.pinned (OpenSpec.upto traceViewsSpec)

/-- 'decklelaw14.WriterTraces', WHERE WHAT IT READS IS OF BULK AT MOST 1048576: true; the input reads as it did. -/
def writerTracesUptoRow : OpenClaim := { program := "ytlhdndnohmikeaagreatdoor", sum := "10a7bae2068e009f4137b4cd85d7468e2920d907d831a9c73b586751474063a3", func := "deckle/decklelaw14.WriterTraces", spec := "writerTraces", inPlace := ["internal/bytealg.IndexByteString", "internal/bytealg.IndexString", "internal/bytealg.abigen_runtime_cmpstring", "math/bits.Add64"], unfollowed := true, recurses := true, named := ["unicode/utf8.first", "unicode/utf8.acceptRanges", "deckle/cell.names", "deckle/entry.frames", "internal/bytealg.MaxLen"], apart := false, laid := [("unicode/utf8.acceptRanges", laid_unicode_utf8_acceptRanges), ("deckle/cell.names", laid_deckle_cell_names), ("deckle/entry.frames", laid_deckle_entry_frames), ("unicode/utf8.first", laid_unicode_utf8_first)], narrowed := true }
def WriterTracesUptoSaid : Prop := writerTracesUptoRow.holds Tryz.pinned (OpenSpec.upto writerTracesSpec)

/-- 'decklelaw18.CursorPlaces', WHERE WHAT IT READS IS OF BULK AT MOST 1048576: true; the input reads as it did. -/
def cursorPlacesUptoRow : OpenClaim := { program := "ytlhdndnohmikeaagreatdoor", sum := "10a7bae2068e009f4137b4cd85d7468e2920d907d831a9c73b586751474063a3", func := "deckle/decklelaw18.CursorPlaces", spec := "cursorPlaces", inPlace := ["internal/bytealg.IndexByteString", "internal/bytealg.IndexString", "internal/bytealg.abigen_runtime_cmpstring", "math/bits.Add64"], unfollowed := true, recurses := true, named := ["unicode/utf8.first", "unicode/utf8.acceptRanges", "deckle/cell.names", "deckle/entry.frames", "internal/bytealg.MaxLen"], apart := false, laid := [("unicode/utf8.acceptRanges", laid_unicode_utf8_acceptRanges), ("deckle/cell.names", laid_deckle_cell_names), ("deckle/entry.frames", laid_deckle_entry_frames), ("unicode/utf8.first", laid_unicode_utf8_first)], narrowed := true }
def CursorPlacesUptoSaid : Prop := cursorPlacesUptoRow.holds Tryz.pinned (OpenSpec.upto cursorPlacesSpec)

/-- 'decklelaw18.CursorEnds', WHERE WHAT IT READS IS OF BULK AT MOST 1048576: true; the input reads as it did. -/
def cursorEndsUptoRow : OpenClaim := { program := "ytlhdndnohmikeaagreatdoor", sum := "10a7bae2068e009f4137b4cd85d7468e2920d907d831a9c73b586751474063a3", func := "deckle/decklelaw18.CursorEnds", spec := "cursorEnds", inPlace := ["internal/bytealg.IndexByteString", "internal/bytealg.IndexString", "internal/bytealg.abigen_runtime_cmpstring", "math/bits.Add64"], unfollowed := true, recurses := true, named := ["unicode/utf8.first", "unicode/utf8.acceptRanges", "deckle/cell.names", "deckle/entry.frames", "internal/bytealg.MaxLen"], apart := false, laid := [("unicode/utf8.acceptRanges", laid_unicode_utf8_acceptRanges), ("deckle/cell.names", laid_deckle_cell_names), ("deckle/entry.frames", laid_deckle_entry_frames), ("unicode/utf8.first", laid_unicode_utf8_first)], narrowed := true }
def CursorEndsUptoSaid : Prop := cursorEndsUptoRow.holds Tryz.pinned (OpenSpec.upto cursorEndsSpec)

/-- 'decklelaw19.PlanOver', WHERE WHAT IT READS IS OF BULK AT MOST 1048576: true; the input reads as it did. -/
def planOverUptoRow : OpenClaim := { program := "ytlhdndnohmikeaagreatdoor", sum := "10a7bae2068e009f4137b4cd85d7468e2920d907d831a9c73b586751474063a3", func := "deckle/decklelaw19.PlanOver", spec := "planOver", inPlace := ["internal/bytealg.IndexByteString", "internal/bytealg.IndexString", "internal/bytealg.abigen_runtime_cmpstring", "math/bits.Add64"], unfollowed := true, recurses := true, named := ["unicode/utf8.first", "unicode/utf8.acceptRanges", "deckle/cell.names", "deckle/entry.frames", "internal/bytealg.MaxLen"], apart := false, laid := [("unicode/utf8.acceptRanges", laid_unicode_utf8_acceptRanges), ("deckle/cell.names", laid_deckle_cell_names), ("deckle/entry.frames", laid_deckle_entry_frames), ("unicode/utf8.first", laid_unicode_utf8_first)], narrowed := true }
def PlanOverUptoSaid : Prop := planOverUptoRow.holds Tryz.pinned (OpenSpec.upto planOverSpec)

/-- 'decklelaw19.PlanMost', WHERE WHAT IT READS IS OF BULK AT MOST 1048576: true; the input reads as it did. -/
def planMostUptoRow : OpenClaim := { program := "ytlhdndnohmikeaagreatdoor", sum := "10a7bae2068e009f4137b4cd85d7468e2920d907d831a9c73b586751474063a3", func := "deckle/decklelaw19.PlanMost", spec := "planMost", inPlace := ["internal/bytealg.IndexByteString", "internal/bytealg.IndexString", "internal/bytealg.abigen_runtime_cmpstring", "math/bits.Add64"], unfollowed := true, recurses := true, named := ["unicode/utf8.first", "unicode/utf8.acceptRanges", "deckle/cell.names", "deckle/entry.frames", "internal/bytealg.MaxLen"], apart := false, laid := [("unicode/utf8.acceptRanges", laid_unicode_utf8_acceptRanges), ("deckle/cell.names", laid_deckle_cell_names), ("deckle/entry.frames", laid_deckle_entry_frames), ("unicode/utf8.first", laid_unicode_utf8_first)], narrowed := true }
def PlanMostUptoSaid : Prop := planMostUptoRow.holds Tryz.pinned (OpenSpec.upto planMostSpec)

/-- 'decklelaw14.WriterReopens', WHERE WHAT IT READS IS OF BULK AT MOST 1048576: true; the input reads as it did. -/
def writerReopensUptoRow : OpenClaim := { program := "ytlhdndnohmikeaagreatdoor", sum := "10a7bae2068e009f4137b4cd85d7468e2920d907d831a9c73b586751474063a3", func := "deckle/decklelaw14.WriterReopens", spec := "writerReopens", inPlace := ["internal/bytealg.IndexByteString", "internal/bytealg.IndexString", "internal/bytealg.abigen_runtime_cmpstring", "math/bits.Add64"], unfollowed := true, recurses := true, named := ["unicode/utf8.first", "unicode/utf8.acceptRanges", "deckle/cell.names", "deckle/entry.frames", "internal/bytealg.MaxLen"], apart := false, laid := [("unicode/utf8.acceptRanges", laid_unicode_utf8_acceptRanges), ("deckle/cell.names", laid_deckle_cell_names), ("deckle/entry.frames", laid_deckle_entry_frames), ("unicode/utf8.first", laid_unicode_utf8_first)], narrowed := true }
def WriterReopensUptoSaid : Prop := writerReopensUptoRow.holds Tryz.pinned (OpenSpec.upto writerReopensSpec)

/-- 'decklelaw19.PlanChanges', WHERE WHAT IT READS IS OF BULK AT MOST 1048576: true; the input reads as it did. -/
def planChangesUptoRow : OpenClaim := { program := "ytlhdndnohmikeaagreatdoor", sum := "10a7bae2068e009f4137b4cd85d7468e2920d907d831a9c73b586751474063a3", func := "deckle/decklelaw19.PlanChanges", spec := "planChanges", inPlace := ["internal/bytealg.IndexByteString", "internal/bytealg.IndexString", "internal/bytealg.abigen_runtime_cmpstring", "math/bits.Add64", "math.Float64frombits"], unfollowed := true, recurses := true, named := ["unicode/utf8.first", "unicode/utf8.acceptRanges", "deckle/cell.names", "deckle/entry.frames", "internal/bytealg.MaxLen"], apart := false, laid := [("unicode/utf8.acceptRanges", laid_unicode_utf8_acceptRanges), ("deckle/cell.names", laid_deckle_cell_names), ("deckle/entry.frames", laid_deckle_entry_frames), ("unicode/utf8.first", laid_unicode_utf8_first)], narrowed := true }
def PlanChangesUptoSaid : Prop := planChangesUptoRow.holds Tryz.pinned (OpenSpec.upto planChangesSpec)

/-- 'decklelaw19.PlanFolds', WHERE WHAT IT READS IS OF BULK AT MOST 1048576: true; the input reads as it did. -/
def planFoldsUptoRow : OpenClaim := { program := "ytlhdndnohmikeaagreatdoor", sum := "10a7bae2068e009f4137b4cd85d7468e2920d907d831a9c73b586751474063a3", func := "deckle/decklelaw19.PlanFolds", spec := "planFolds", inPlace := ["internal/bytealg.IndexByteString", "internal/bytealg.IndexString", "internal/bytealg.abigen_runtime_cmpstring", "math/bits.Add64"], unfollowed := true, recurses := true, named := ["unicode/utf8.first", "unicode/utf8.acceptRanges", "deckle/cell.names", "deckle/entry.frames", "internal/bytealg.MaxLen"], apart := false, laid := [("unicode/utf8.acceptRanges", laid_unicode_utf8_acceptRanges), ("deckle/cell.names", laid_deckle_cell_names), ("deckle/entry.frames", laid_deckle_entry_frames), ("unicode/utf8.first", laid_unicode_utf8_first)], narrowed := true }
def PlanFoldsUptoSaid : Prop := planFoldsUptoRow.holds Tryz.pinned (OpenSpec.upto planFoldsSpec)

end Rows
end Go.Proofs.YtlhdndnohmikeaaGreatDoor
