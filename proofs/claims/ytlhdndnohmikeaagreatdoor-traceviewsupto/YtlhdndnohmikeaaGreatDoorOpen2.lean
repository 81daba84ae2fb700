/-
  The arguments, read, weighed by their pairs.
-/
import Derived.Test.YtlhdndnohmikeaaGreatDoorMOpen
import Derived.Test.YtlhdndnohmikeaaGreatDoorW55
set_option linter.unusedVariables false
set_option linter.unusedSimpArgs false
namespace Go.Proofs.YtlhdndnohmikeaaGreatDoor
open Go.RowKit Go.ChangeShapes Go.Deep

set_option maxRecDepth 10000
section
variable {H : Type} {enc : TypeId × Value → H} {w : World} {base : Nat} {spare : Nat → Bool} {held : Bool}
theorem opens_cell2 : Opens H enc w base spare held cellK 90 (fun c => c.text.size + 1) := fun n cs x h => by
  obtain ⟨y0, y1, m, rfl, hl, h0, h1⟩ := trod_struct2 Tryz.underlying90 h
  obtain ⟨k, e0, rfl, hk⟩ := DataW.trod_int Tryz.underlying88 h0
  obtain ⟨s, e1, rfl, hs⟩ := DataW.trod_string Tryz.underlying9 h1
  rw [cCell] at hl
  simp only [cStr, cU64] at e0 e1
  obtain ⟨u, v, rfl⟩ := two_of hl
  simp at e0 e1
  subst e0 e1
  refine ⟨⟨k, s⟩, ⟨rfl, wf_u64 hk, hs⟩, ?_⟩
  have : s.size = s.data.toList.length := by rw [Array.length_toList]; rfl
  simp only [Rows.uptoBulk, Rows.uptoBulkAll]
  omega
theorem sum_cells (r : List Cell) : (r.map fun c => c.text.size + 1).sum = rowSize r + r.length := by
  induction r with
  | nil => simp [rowSize]
  | cons c r ih => simp only [List.map_cons, List.sum_cons, List.length_cons, rowSize] at ih ⊢; omega
theorem opens_pair2 : Opens H enc w base spare held pairK 94 pairSize := fun n cs x h => by
  obtain ⟨y0, y1, m, rfl, hl, h0, h1⟩ := trod_struct2 Tryz.underlying94 h
  obtain ⟨v, xs, e0, hv, hb, _⟩ := sl_open opens_cell2 Tryz.underlying92 cCell h0
  obtain ⟨k, e1, rfl, hk⟩ := DataW.trod_int Tryz.underlying2 h1
  rw [cPair] at hl
  simp only [cRow, cInt64] at e0 e1
  obtain ⟨u, u', rfl⟩ := two_of hl
  simp at e0 e1
  subst e0 e1
  refine ⟨⟨xs, k⟩, ⟨_, rfl, hv, wf_i64 hk⟩, ?_⟩
  rw [sum_cells] at hb
  unfold pairSize
  simp only [Rows.uptoBulk, Rows.uptoBulkAll]
  omega
theorem opens_entry2 : Opens H enc w base spare held entryK 58 (fun e => pairsSize e.pairs) := fun n cs x h => by
  obtain ⟨y0, y1, y2, m, rfl, hl, h0, h1, h2⟩ := trod_struct3 Tryz.underlying58 h
  obtain ⟨k, e0, rfl, hk⟩ := DataW.trod_int Tryz.underlying3 h0
  obtain ⟨q, e1, rfl, hq⟩ := DataW.trod_int Tryz.underlying2 h1
  obtain ⟨v, xs, e2, hv, hb, _⟩ := sl_open opens_pair2 Tryz.underlying33 cPair h2
  rw [cEntry] at hl
  simp only [cInt, cInt64, cPairs] at e0 e1 e2
  obtain ⟨u, u', u'', rfl⟩ := three_of hl
  simp at e0 e1 e2
  subst e0 e1 e2
  refine ⟨⟨k, q, xs⟩, ⟨_, rfl, hv, wf_i64 hk, wf_i64 hq⟩, ?_⟩
  show pairsSize xs ≤ _
  unfold pairsSize
  simp only [Rows.uptoBulk, Rows.uptoBulkAll]
  omega
theorem sum_entries (es : List Entry) : (es.map fun e => pairsSize e.pairs).sum = pairsSize (pairsOf2 es) := by
  induction es with
  | nil => rfl
  | cons e es ih => simp only [List.map_cons, List.sum_cons, ih, pairsOf2, List.flatMap_cons, pairsSize_append]
/-- A trace, read. -/
theorem open_trace2 {n : Nat} {cs : List Value} {x : DataW H × List MemPlace} (h : DataW.trod enc Tryz.prog w base spare held n 46 cs = some x) :
    ∃ vs ve s es, cs = [vs, ve] ∧ SL colK w (fun _ => True) vs s ∧ SL entryK w (fun _ => True) ve es ∧ pairsSize (pairsOf2 es) ≤ Rows.uptoBulk x.1 ∧ es.length ≤ Rows.uptoBulk x.1 := by
  obtain ⟨y0, y1, m, rfl, hl, h0, h1⟩ := trod_struct2 Tryz.underlying46 h
  obtain ⟨vs, s, e0, hs, _, _⟩ := sl_open opens_col Tryz.underlying22 cCol h0
  obtain ⟨ve, es, e1, he, h2, h3⟩ := sl_open opens_entry2 Tryz.underlying44 cEntry h1
  rw [cTrace] at hl
  simp only [cCols, cEntries] at e0 e1
  obtain ⟨u, u', rfl⟩ := two_of hl
  simp at e0 e1
  subst e0 e1
  rw [sum_entries] at h2
  refine ⟨_, _, s, es, rfl, hs, he, ?_, ?_⟩ <;> simp only [Rows.uptoBulk, Rows.uptoBulkAll] <;> omega
end
end Go.Proofs.YtlhdndnohmikeaaGreatDoor
