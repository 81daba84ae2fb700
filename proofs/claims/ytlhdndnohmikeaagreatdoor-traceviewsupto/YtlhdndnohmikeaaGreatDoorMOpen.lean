/-
  The arguments, read: what a call is handed reads as lists.
  The package-level variables, off a row's list.
-/
import Derived.Test.YtlhdndnohmikeaaGreatDoorRows
import Derived.Test.YtlhdndnohmikeaaGreatDoorApp
import Derived.ChangeSame
import Derived.Deep.Strs
import Derived.Deep.Slices
import Derived.ChangeArms
import Derived.Test.YtlhdndnohmikeaaGreatDoorShelf
import Derived.Lib.LaidU8T
import Derived.OpenShut
import Derived.LaidLaws
import Derived.Deep.DeepHandedRow
import Derived.Carry
set_option linter.unusedVariables false
set_option linter.unusedSimpArgs false
namespace Go.Proofs.YtlhdndnohmikeaaGreatDoor
open Go.RowKit Go.ChangeShapes Go.Deep

section
variable {H : Type} {enc : TypeId × Value → H} {w : World} {base : Nat} {spare : Nat → Bool} {held : Bool}
theorem bulk_append (l r : List (DataW H)) : Rows.uptoBulkAll (l ++ r) = Rows.uptoBulkAll l + Rows.uptoBulkAll r := by
  induction l with
  | nil => simp [Rows.uptoBulkAll]
  | cons x l ih => simp only [List.cons_append, Rows.uptoBulkAll, ih]; omega
theorem bulk_pos (d : DataW H) : 1 ≤ Rows.uptoBulk d := by
  cases d with
  | lit l => cases l <;> simp [Rows.uptoBulk]
  | nil => simp [Rows.uptoBulk]
  | ptr d => simp [Rows.uptoBulk]
  | slice elems spare => simp [Rows.uptoBulk]
  | agg parts => simp [Rows.uptoBulk]
  | iface t d => simp [Rows.uptoBulk]
  | map entries => simp [Rows.uptoBulk]
  | held h => simp [Rows.uptoBulk]
/-- What is read at a type is an element of the kind, of no more weight than bulk. -/
def Opens (H : Type) (enc : TypeId × Value → H) (w : World) (base : Nat) (spare : Nat → Bool) (held : Bool) {α : Type} (d : Kind α) (e : TypeId) (μ : α → Nat) : Prop :=
  ∀ (n : Nat) (cs : List Value) (x : DataW H × List MemPlace), DataW.trod enc Tryz.prog w base spare held n e cs = some x → ∃ a, d.rel w (fun _ => True) a cs ∧ μ a ≤ Rows.uptoBulk x.1
theorem build_list {α : Type} {d : Kind α} {e : TypeId} {μ : α → Nat} (ho : Opens H enc w base spare held d e μ) (a : Addr) (n : Nat) (D : Nat → DataW H) (Pl : Nat → List MemPlace) (hc : Tryz.prog.cellsOf e = d.sz) :
    ∀ len, (∀ i, i < len → ∃ cs', w.cells? base (a.add (i * Tryz.prog.cellsOf e)) (Tryz.prog.cellsOf e) = some cs' ∧ DataW.trod enc Tryz.prog w base spare held n e cs' = some (D i, Pl i)) →
      ∃ (xs : List α) (cs : List Value), xs.length = len ∧ cs.length = len * d.sz ∧ Rel (d.rel w (fun _ => True)) xs cs ∧ (∀ j u, cs[j]? = some u → w.cell? (a.add j) = some u) ∧ (xs.map μ).sum ≤ Rows.uptoBulkAll ((List.range len).map D) ∧ len ≤ Rows.uptoBulkAll ((List.range len).map D)
  | 0, _ => ⟨[], [], rfl, by simp, .nil, by simp, by simp, by simp⟩
  | len + 1, h => by
    obtain ⟨xs, cs, h1, h2, h3, h4, h5, h6⟩ := build_list ho a n D Pl hc len fun i hi => h i (by omega)
    obtain ⟨cs', k1, k2⟩ := h len (by omega)
    obtain ⟨x, hx, hm⟩ := ho _ _ _ k2
    obtain ⟨_, hl, hcell⟩ := World.cells?_some k1
    have hp := bulk_pos (D len)
    refine ⟨xs ++ [x], cs ++ cs', by simp [h1], by rw [List.length_append, h2, hl, hc, Nat.add_mul, Nat.one_mul], h3.append (Rel.single hx), fun j u hj => ?_, ?_, ?_⟩
    · by_cases hlt : j < cs.length
      · rw [List.getElem?_append_left hlt] at hj; exact h4 j u hj
      · rw [List.getElem?_append_right (by omega)] at hj
        have hj' : j - cs.length < cs'.length := (List.getElem?_eq_some_iff.1 hj).1
        have := hcell (j - cs.length) (by omega)
        rw [hj, add_of_add, hc, ← h2, show cs.length + (j - cs.length) = j by omega] at this
        exact this
    · simp only [List.range_succ, List.map_append, bulk_append, List.sum_append]
      simp only [List.map_cons, List.map_nil, List.sum_cons, List.sum_nil, Rows.uptoBulkAll]
      show _ ≤ _
      have : μ x ≤ Rows.uptoBulk (D len) := hm
      omega
    · rw [List.range_succ, List.map_append, bulk_append]
      simp only [List.map_cons, List.map_nil, Rows.uptoBulkAll]
      omega
/-- A slice, read. -/
theorem sl_open {α : Type} {d : Kind α} {t e : TypeId} {μ : α → Nat} (ho : Opens H enc w base spare held d e μ) (ht : Tryz.prog.underlying t = some (.slice e)) (hc : Tryz.prog.cellsOf e = d.sz) {n : Nat} {cs : List Value} {x : DataW H × List MemPlace}
    (h : DataW.trod enc Tryz.prog w base spare held n t cs = some x) : ∃ v xs, cs = [v] ∧ SL d w (fun _ => True) v xs ∧ (xs.map μ).sum ≤ Rows.uptoBulk x.1 ∧ xs.length ≤ Rows.uptoBulk x.1 := by
  rcases open_slice ht h with ⟨rfl, rfl⟩ | ⟨a, len, cap, m, n, D, Pl, rfl, hb, hl, hm, hmm, rfl, hx⟩
  · exact ⟨_, [], rfl, SL.nil _ _ _, by simp, by simp⟩
  · have hlm : len ≤ m := by rw [hmm]; split <;> omega
    obtain ⟨xs, cs, h1, h2, h3, h4, h5, h6⟩ := build_list ho a n D Pl hc len fun i hi => hx i (by omega)
    refine ⟨_, xs, rfl, ⟨some a, cap, cs, by rw [h1], by omega, hm, fun h0 => ⟨a, rfl, trivial, ?_, h4⟩, h3⟩, ?_, ?_⟩
    · have := World.block_lt_of_cell? w _ (h4 0 cs[0] (List.getElem?_eq_getElem h0))
      rw [block_of_add] at this
      exact this
    · simp only [Rows.uptoBulk]; omega
    · simp only [Rows.uptoBulk]; omega
end
theorem cStr : Tryz.prog.cellsOf 9 = 1 := by kernel_rfl
theorem cInt : Tryz.prog.cellsOf 3 = 1 := by kernel_rfl
theorem cInt64 : Tryz.prog.cellsOf 2 = 1 := by kernel_rfl
theorem cU64 : Tryz.prog.cellsOf 88 = 1 := by kernel_rfl
theorem cRow : Tryz.prog.cellsOf 92 = 1 := by kernel_rfl
theorem cPairs : Tryz.prog.cellsOf 33 = 1 := by kernel_rfl
theorem cCols : Tryz.prog.cellsOf 22 = 1 := by kernel_rfl
theorem cEntries : Tryz.prog.cellsOf 44 = 1 := by kernel_rfl
theorem cCol : Tryz.prog.cellsOf 87 = 2 := by kernel_rfl
theorem cCell : Tryz.prog.cellsOf 90 = 2 := by kernel_rfl
theorem cPair : Tryz.prog.cellsOf 94 = 2 := by kernel_rfl
theorem cEntry : Tryz.prog.cellsOf 58 = 3 := by kernel_rfl
theorem cTrace : Tryz.prog.cellsOf 46 = 2 := by kernel_rfl
theorem wf_i64 {k : Int} (h : (Lit.int .i64 k).wf = true) : I64 k := by simpa [Lit.wf, I64, IntKind.min, IntKind.max, IntKind.bits, IntKind.signed] using h
theorem wf_u64 {k : Int} (h : (Lit.int .u64 k).wf = true) : U64 k := by simpa [Lit.wf, U64, IntKind.min, IntKind.max, IntKind.bits, IntKind.signed] using h
section
variable {H : Type} {enc : TypeId × Value → H} {w : World} {base : Nat} {spare : Nat → Bool} {held : Bool}
theorem two_of {cs : List Value} (h : cs.length = 2) : ∃ u v, cs = [u, v] := by
  match cs, h with
  | [u, v], _ => exact ⟨u, v, rfl⟩
theorem three_of {cs : List Value} (h : cs.length = 3) : ∃ u v x, cs = [u, v, x] := by
  match cs, h with
  | [u, v, x], _ => exact ⟨u, v, x, rfl⟩
set_option maxRecDepth 10000
theorem opens_col : Opens H enc w base spare held colK 87 (fun _ => 1) := fun n cs x h => by
  obtain ⟨y0, y1, m, rfl, hl, h0, h1⟩ := trod_struct2 Tryz.underlying87 h
  obtain ⟨s, e0, rfl, hs⟩ := DataW.trod_string Tryz.underlying9 h0
  obtain ⟨k, e1, rfl, hk⟩ := DataW.trod_int Tryz.underlying3 h1
  rw [cCol] at hl
  simp only [cStr, cInt] at e0 e1
  obtain ⟨u, v, rfl⟩ := two_of hl
  simp at e0 e1
  subst e0 e1
  exact ⟨⟨s, k⟩, ⟨rfl, wf_i64 hk, hs⟩, bulk_pos _⟩
theorem opens_cell : Opens H enc w base spare held cellK 90 (fun _ => 1) := fun n cs x h => by
  obtain ⟨y0, y1, m, rfl, hl, h0, h1⟩ := trod_struct2 Tryz.underlying90 h
  obtain ⟨k, e0, rfl, hk⟩ := DataW.trod_int Tryz.underlying88 h0
  obtain ⟨s, e1, rfl, hs⟩ := DataW.trod_string Tryz.underlying9 h1
  rw [cCell] at hl
  simp only [cStr, cU64] at e0 e1
  obtain ⟨u, v, rfl⟩ := two_of hl
  simp at e0 e1
  subst e0 e1
  exact ⟨⟨k, s⟩, ⟨rfl, wf_u64 hk, hs⟩, bulk_pos _⟩
theorem opens_pair : Opens H enc w base spare held pairK 94 (fun _ => 1) := fun n cs x h => by
  obtain ⟨y0, y1, m, rfl, hl, h0, h1⟩ := trod_struct2 Tryz.underlying94 h
  obtain ⟨v, xs, e0, hv, _, _⟩ := sl_open opens_cell Tryz.underlying92 cCell h0
  obtain ⟨k, e1, rfl, hk⟩ := DataW.trod_int Tryz.underlying2 h1
  rw [cPair] at hl
  simp only [cRow, cInt64] at e0 e1
  obtain ⟨u, u', rfl⟩ := two_of hl
  simp at e0 e1
  subst e0 e1
  exact ⟨⟨xs, k⟩, ⟨_, rfl, hv, wf_i64 hk⟩, bulk_pos _⟩
theorem opens_entry : Opens H enc w base spare held entryK 58 (fun e => e.pairs.length) := fun n cs x h => by
  obtain ⟨y0, y1, y2, m, rfl, hl, h0, h1, h2⟩ := trod_struct3 Tryz.underlying58 h
  obtain ⟨k, e0, rfl, hk⟩ := DataW.trod_int Tryz.underlying3 h0
  obtain ⟨q, e1, rfl, hq⟩ := DataW.trod_int Tryz.underlying2 h1
  obtain ⟨v, xs, e2, hv, _, hn⟩ := sl_open opens_pair Tryz.underlying33 cPair h2
  rw [cEntry] at hl
  simp only [cInt, cInt64, cPairs] at e0 e1 e2
  obtain ⟨u, u', u'', rfl⟩ := three_of hl
  simp at e0 e1 e2
  subst e0 e1 e2
  refine ⟨⟨k, q, xs⟩, ⟨_, rfl, hv, wf_i64 hk, wf_i64 hq⟩, ?_⟩
  show xs.length ≤ _
  simp only [Rows.uptoBulk, Rows.uptoBulkAll]
  omega
/-- A trace, read. -/
theorem open_trace {n : Nat} {cs : List Value} {x : DataW H × List MemPlace} (h : DataW.trod enc Tryz.prog w base spare held n 46 cs = some x) :
    ∃ vs ve s es, cs = [vs, ve] ∧ SL colK w (fun _ => True) vs s ∧ SL entryK w (fun _ => True) ve es ∧ (es.map (fun e => e.pairs.length)).sum ≤ Rows.uptoBulk x.1 ∧ es.length ≤ Rows.uptoBulk x.1 := by
  obtain ⟨y0, y1, m, rfl, hl, h0, h1⟩ := trod_struct2 Tryz.underlying46 h
  obtain ⟨vs, s, e0, hs, _, _⟩ := sl_open opens_col Tryz.underlying22 cCol h0
  obtain ⟨ve, es, e1, he, h2, h3⟩ := sl_open opens_entry Tryz.underlying44 cEntry h1
  rw [cTrace] at hl
  simp only [cCols, cEntries] at e0 e1
  obtain ⟨u, u', rfl⟩ := two_of hl
  simp at e0 e1
  subst e0 e1
  refine ⟨_, _, s, es, rfl, hs, he, ?_, ?_⟩ <;> simp only [Rows.uptoBulk, Rows.uptoBulkAll] <;> omega
end
end Go.Proofs.YtlhdndnohmikeaaGreatDoor

set_option linter.unusedVariables false
set_option linter.unusedSimpArgs false
namespace Go.Proofs.YtlhdndnohmikeaaGreatDoor
open Go.RowKit Go.Lib

theorem first_eq : Rows.laid_unicode_utf8_first = firstData := by kernel_rfl
theorem accept_eq : (Rows.laid_unicode_utf8_acceptRanges : DataW Unit) = acceptData := by kernel_rfl
theorem frames_eq : (Rows.laid_deckle_entry_frames : DataW Unit) = tabData .i64 [2, 1] := by kernel_rfl
theorem gNames : Tryz.prog.globalNamed "deckle/cell.names" = some 1 := by kernel_rfl
theorem gFrames : Tryz.prog.globalNamed "deckle/entry.frames" = some 0 := by kernel_rfl
theorem yNames : (Tryz.prog.globals[1]?).map (·.type) = some 272 := by kernel_rfl
theorem yFrames : (Tryz.prog.globals[0]?).map (·.type) = some 166 := by kernel_rfl
theorem cNames : Tryz.prog.cellsOf 272 = 6 := by kernel_rfl
theorem cFrames : Tryz.prog.cellsOf 166 = 2 := by kernel_rfl
theorem cStr' : Tryz.prog.cellsOf 9 = 1 := by kernel_rfl
theorem cInt' : Tryz.prog.cellsOf 3 = 1 := by kernel_rfl
theorem glob_of_reads {W : World} (h1 : VarReads Tryz.prog W "unicode/utf8.acceptRanges" Rows.laid_unicode_utf8_acceptRanges) (h2 : VarReads Tryz.prog W "deckle/cell.names" Rows.laid_deckle_cell_names)
    (h3 : VarReads Tryz.prog W "deckle/entry.frames" Rows.laid_deckle_entry_frames) (h4 : VarReads Tryz.prog W "unicode/utf8.first" Rows.laid_unicode_utf8_first) : Glob W := by
  rw [first_eq] at h4
  rw [accept_eq] at h1
  rw [frames_eq] at h3
  have hf : ∀ i v, ([Value.int .i64 2, Value.int .i64 1])[i]? = some v → W.cell? ⟨0, i, none⟩ = some v := fun i v hv => by
    obtain ⟨g, t, cs, fuel, p, hg, hty, hvar, hd⟩ := h3
    obtain rfl := Option.some.inj (gFrames.symm.trans hg)
    obtain rfl := Option.some.inj (yFrames.symm.trans hty)
    have hcs := cells_of_tab Tryz.underlying166 Tryz.underlying3 cInt' cFrames hd
    have := World.var?_cell hg hvar i
    rw [this, ← Array.getElem?_toList, hcs]
    exact hv
  refine ⟨fun j hj => ?_, hf 0 _ rfl, hf 1 _ rfl, utf8Tabs_of_readsT (ρ := Tryz.lays196_ren) (Go.Proofs.U8Types.of196 Tryz.lays196) ⟨by kernel_rfl, by kernel_rfl, by kernel_rfl, by kernel_rfl, by kernel_rfl, by kernel_rfl, by kernel_rfl⟩ h4 h1⟩
  obtain ⟨g, t, cs, fuel, p, hg, hty, hvar, hd⟩ := h2
  obtain rfl := Option.some.inj (gNames.symm.trans hg)
  obtain rfl := Option.some.inj (yNames.symm.trans hty)
  obtain ⟨xs, m, rfl, hx, hl, hxl, hall⟩ := DataW.trod_array Tryz.underlying272 hd
  have h := hall j hj
  rw [cStr', Nat.mul_one, List.getElem?_eq_getElem (by omega)] at h
  obtain ⟨s, hs, _⟩ := DataW.trod_string Tryz.underlying9 h
  have := World.var?_cell hg hvar j
  refine ⟨s, ?_⟩
  rw [this, ← Array.getElem?_toList]
  have h0 := congrArg (·[0]?) hs
  simpa [List.getElem?_take, List.getElem?_drop] using h0
/-- A world in which the variables hold what their initialisers lay. -/
noncomputable def laidWorld (os : Os) : World :=
  let w0 := World.holding Tryz.prog os ⟨#[], #[], []⟩
  let put (h : Array Obj) (g : Nat) (cs : Array Value) : Array Obj := h.modify g fun
    | .cells _ t frozen => .cells cs t frozen
    | o => o
  let h1 := put w0.heap 0 #[.int .i64 2, .int .i64 1]
  let h2 := put h1 1 #[.string ⟨#[105, 110, 116]⟩, .string ⟨#[117, 105, 110, 116]⟩, .string ⟨#[98, 111, 111, 108]⟩, .string ⟨#[98, 121, 116, 101, 115]⟩, .string ⟨#[116, 101, 120, 116]⟩, .string ⟨#[102, 108, 111, 97, 116]⟩]
  let h3 := put h2 2 (Lib.firstTab.map fun z => Value.int .u8 z).toArray
  let h4 := put h3 3 ((List.range 16).flatMap fun i => [Value.int .u8 (Lib.accLo i), Value.int .u8 (Lib.accHi i)]).toArray
  { w0 with heap := h4 }
/-- The four variables, as the rows list them. -/
def laidL : List (String × DataW Unit) := [("unicode/utf8.acceptRanges", Rows.laid_unicode_utf8_acceptRanges), ("deckle/cell.names", Rows.laid_deckle_cell_names), ("deckle/entry.frames", Rows.laid_deckle_entry_frames), ("unicode/utf8.first", Rows.laid_unicode_utf8_first)]
theorem laid_met (os : Os) (args : Array Value) : laidMet Tryz.prog laidL ((laidWorld os).forCall (fun _ _ => 0) ⟨#[], args, []⟩).memory :=
  laidMet_of_run' 8 (by kernel_rfl) (by kernel_rfl)
theorem glob_of_laid {W : World} (h : laidMet Tryz.prog laidL W) : Glob W :=
  glob_of_reads (Lib.laidMet.reads h (.head _)) (Lib.laidMet.reads h (.tail _ (.head _))) (Lib.laidMet.reads h (.tail _ (.tail _ (.head _)))) (Lib.laidMet.reads h (.tail _ (.tail _ (.tail _ (.head _)))))
theorem own : ownKnob Tryz.prog.godebug = none := by kernel_rfl
theorem laidOut : laidOutB Tryz.prog = true := by kernel_rfl
end Go.Proofs.YtlhdndnohmikeaaGreatDoor
