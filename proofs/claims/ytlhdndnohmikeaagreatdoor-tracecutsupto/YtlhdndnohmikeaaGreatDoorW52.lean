/-
  Walks: Size and Great, of which only the kind of the answer is told here.
-/
import Derived.Test.YtlhdndnohmikeaaGreatDoorMW48
import Derived.Shelf.RegionOpenPlain
set_option linter.unusedVariables false
set_option linter.unusedSimpArgs false
namespace Go.Proofs.YtlhdndnohmikeaaGreatDoor
open Go.RowKit

theorem size_calls (r : List Cell) (v : Value) (w : World) (F : Nat → Prop) (hr : SL cellK w F v r) :
    Calls Tryz.prog 81 #[v] w fun e w' => (∃ n, e = .returned (.int .i64 n)) ∧ w = w' := by
  have hl := hr.len_le
  unfold maxLen at hl
  obtain ⟨A, c, rfl, _, _⟩ := hr.form
  go_enter Tryz.func81, Tryz.ntmps81
  go_wp2
  go_loopw [3, 4] (fun x i wr => ∃ (n : Int) (k : Nat), x = .int .i64 n ∧ i = .int .i64 k ∧ k ≤ r.length ∧ w = wr) (fun _ i _ => r.length - (intOf i).toNat)
  case atStart => exact ⟨0, 0, rfl, rfl, by omega, rfl⟩
  case round =>
    obtain ⟨n, k, rfl, rfl, hk, rfl⟩ := hrel
    by_cases hlt : k < r.length
    · obtain ⟨ad, rfl, l1, x0, x1, _, _⟩ := cell_at hr hlt
      have k0 : (k : Int) < r.length := by omega
      go_wp2
      go_roundw
      case rel => exact ⟨_, k + 1, rfl, by go_num, by omega, trivial⟩
      case measure => simp [intOf]; omega
    · go_wp2
      go_ret
      exact ⟨⟨_, rfl⟩, rfl⟩
set_option maxRecDepth 100000 in
set_option maxHeartbeats 1000000 in
theorem great8_calls (l : List (List Pair)) (v : Value) (w : World) (F : Nat → Prop) (hv : SL (rowK pairK) w F v l) :
    Calls Tryz.prog 33 #[v] w fun e w' => (∃ n, e = .returned (.int .i64 n)) ∧ Below w.heap.size w w' := by
  have hl := hv.len_le
  unfold maxLen at hl
  obtain ⟨A, c, rfl, _, _⟩ := hv.form
  go_enter Tryz.func33, Tryz.ntmps33
  go_wp2
  go_loopw [3, 10] (fun x i wr => ∃ (n : Int) (k : Nat), x = .int .i64 n ∧ i = .int .i64 k ∧ k ≤ l.length ∧ Below w.heap.size w wr) (fun _ i _ => l.length - (intOf i).toNat)
  case atStart => exact ⟨0, 0, rfl, rfl, by omega, Below.refl _ _⟩
  case round =>
    obtain ⟨n, k, rfl, rfl, hk, hbr⟩ := hrel
    by_cases hlt : k < l.length
    · obtain ⟨ad, r, rfl, l1, x0, hr⟩ := row_at (hv.below hbr) hlt
      have k0 : (k : Int) < l.length := by omega
      generalize l[k] = ps at *
      have hl2 := hr.len_le
      unfold maxLen at hl2
      obtain ⟨B, d, rfl, _, _⟩ := hr.form
      go_wp2
      rename World => wo
      go_loopw [3, 16] (fun x i wr => ∃ (n : Int) (j : Nat), x = .int .i64 n ∧ i = .int .i64 j ∧ j ≤ ps.length ∧ Below wo.heap.size wo wr) (fun _ i _ => ps.length - (intOf i).toNat)
      case atStart => exact ⟨n, 0, rfl, rfl, by omega, Below.refl _ _⟩
      case round =>
        obtain ⟨m, j, rfl, rfl, hj, hbj⟩ := hrel
        by_cases hlj : j < ps.length
        · obtain ⟨ap, rv, rfl, l3, y0, y1, hrow, _⟩ := pair_at (hr.below hbj) hlj
          have j0 : (j : Int) < ps.length := by omega
          generalize ps[j] = p at *
          obtain ⟨C, cc, rfl, _, _⟩ := hrow.form
          go_wp2
          have hrow' := ((hrow.any.below (bel_alloc (Below.refl _ _) (.cells #[.slice C p.row.length cc, .int .i64 p.weight] 94)))).drew
          have SZ := Lib.hid (size_calls p.row _ _ _ hrow')
          clear hrow hrow'
          go_region_held3 (fun w' => w'.cell? ⟨wr.heap.size, 0, none⟩ = some (.slice C p.row.length cc))
            (first
              | exact cell_new_at _ _ _ _ _ _ rfl rfl
              | assumption)
            (first | (go_at_call 81; go_loud (refine SZ.out.mono ?_; rintro e w2 ⟨⟨n2, rfl⟩, rfl⟩)))
          go_wp2
          go_roundw
          case rel => exact ⟨_, j + 1, rfl, by go_num, by omega, bel_drew (bel_alloc hbj _)⟩
          case measure => simp [intOf]; omega
        · go_wp2
          go_roundw
          case rel => exact ⟨_, k + 1, rfl, by go_num, by omega, bel_trans hbr hbj⟩
          case measure => simp [intOf]; omega
    · go_wp2
      all_goals go_ret
      all_goals exact ⟨⟨_, rfl⟩, hbr⟩
/-- A slice of one slice. -/
theorem one_slice {α : Type} {d : Kind α} {w : World} {F : Nat → Prop} {v : Value} {xs : List α} (e : Nat) (h : SL d w F v xs) : SL (rowK d) (w.alloc (.cells #[v] e)) (fun k => F k ∨ k = w.heap.size) (.slice (some ⟨w.heap.size, 0, none⟩) 1 1) [xs] :=
  SL.single (d := rowK d) (cs := [v]) e ⟨v, rfl, h⟩
/-- How many pairs a trace has. -/
def pairsOf (es : List Entry) : List Pair := es.flatMap (·.pairs)
set_option maxRecDepth 100000 in
set_option maxHeartbeats 2000000 in
theorem great13_calls (s : List Col) (es : List Entry) (vs ve : Value) (w : World) (F G : Nat → Prop) (hs : SL colK w F vs s) (he : SL entryK w G ve es) (hn : (pairsOf es).length ≤ 1099511627776) :
    Calls Tryz.prog 27 #[.agg #[vs, ve]] w fun e w' => (∃ n, e = .returned (.int .i64 n)) ∧ Below w.heap.size w w' := by
  have hl := he.len_le
  unfold maxLen at hl
  obtain ⟨A, c, rfl, _, _⟩ := hs.form
  obtain ⟨B, d, rfl, _, _⟩ := he.form
  have GR := Lib.hid (fun W v l F (h : SL (rowK pairK) W F v l) => great8_calls l v W F h)
  have c0 := cell_new_at w #[.slice A s.length c, .slice B es.length d] 46 0 _ (.slice A s.length c) rfl rfl
  have c1 := cell_new_at w #[.slice A s.length c, .slice B es.length d] 46 1 _ (.slice B es.length d) rfl rfl
  have hb0 : Below w.heap.size w (w.alloc (.cells #[.slice A s.length c, .slice B es.length d] 46)) := bel_alloc (Below.refl _ _) _
  clear hs
  go_enter Tryz.func27, Tryz.ntmps27
  go_wp2_with fail
  generalize hwa : w.alloc (.cells #[.slice A s.length c, .slice B es.length d] 46) = wa at *
  go_loopw [3, 12] (fun x i wr => ∃ (n : Int) (k : Nat), x = .int .i64 n ∧ i = .int .i64 k ∧ k ≤ es.length ∧ Below wa.heap.size wa wr) (fun _ i _ => es.length - (intOf i).toNat)
  case atStart => exact ⟨0, 0, rfl, rfl, by omega, Below.refl _ _⟩
  case round =>
    obtain ⟨n, k, rfl, rfl, hk, hbr'⟩ := hrel
    have hbw := bel_trans hb0 hbr'
    by_cases hlt : k < es.length
    · obtain ⟨ad, r, rfl, l1, x0, x1, x2, hr, _, _⟩ := entry_at (he.below hbw) hlt
      have k0 : (k : Int) < es.length := by omega
      generalize es[k] = ek at *
      obtain ⟨C, cc, rfl, _, _⟩ := hr.form
      have hx := one_slice 33 (hr.any.below (bel_alloc (Below.refl _ _) (.cells #[.int .i64 ek.kind, .int .i64 ek.seq, .slice C ek.pairs.length cc] 58))).drew
      have GX := Lib.hid (GR.out _ _ _ _ hx)
      have hbA := bel_alloc hbr' (.cells #[.int .i64 ek.kind, .int .i64 ek.seq, .slice C ek.pairs.length cc] 58)
      clear hr hx
      go_wp2_with fail
      have c2 := cell_new_at wr #[.int .i64 ek.kind, .int .i64 ek.seq, .slice C ek.pairs.length cc] 58 2 _ (.slice C ek.pairs.length cc) rfl rfl
      generalize hwx : wr.alloc (.cells #[.int .i64 ek.kind, .int .i64 ek.seq, .slice C ek.pairs.length cc] 58) = wx at *
      go_region_held3 (fun w' => w'.cell? ⟨wr.heap.size, 2, none⟩ = some (.slice C ek.pairs.length cc))
        (first
          | exact c2
          | exact cell_al (by assumption) _
          | exact cell_by hb2 (by assumption)
          | exact cell_by hb2 (cell_al (by assumption) _))
        (first | (go_at_call 33; go_loud (refine GX.out.mono ?_; rintro e w2 ⟨⟨n2, rfl⟩, hb2⟩)))
      go_wp2_with fail
      go_roundw
      case rel => exact ⟨_, k + 1, rfl, by go_num, by omega, bel_trans (bel_alloc (bel_drew hbA) _) hb2⟩
      case measure => simp [intOf]; omega
    · have d0 := cell_by hbr' c0
      have d1 := cell_by hbr' c1
      go_wp2_with fail
      all_goals first | (go_ret; exact ⟨⟨_, rfl⟩, hbw⟩) | skip
      · rename World => wo
        clear d0 d1 c0 c1 hbr'
        go_loopw [6, 44] (fun x i wr => ∃ (j : Nat), i = .int .i64 j ∧ j ≤ es.length ∧ Below wo.heap.size wo wr ∧ Own pairK 94 wr wo.heap.size (fun k => k < wo.heap.size) x (pairsOf (es.take j))) (fun _ i _ => es.length - (intOf i).toNat)
        case atStart => exact ⟨0, rfl, by omega, Below.refl _ _, by simpa [pairsOf] using Own.nil _ _ _ _ _⟩
        case round =>
          obtain ⟨j, rfl, hj, hbj, hO⟩ := hrel
          by_cases hlj : j < es.length
          · have hbwj := bel_trans hbw hbj
            obtain ⟨ad, r, rfl, l1, x0, x1, x2, hr, _, _⟩ := entry_at (he.since hbwj) hlj
            have j0 : (j : Int) < es.length := by omega
            have hta : pairsOf (es.take (j + 1)) = pairsOf (es.take j) ++ es[j].pairs := by
              unfold pairsOf
              rw [List.take_add_one, List.getElem?_eq_getElem hlj, List.flatMap_append]; simp
            have hlen : (pairsOf (es.take (j + 1))).length ≤ 1099511627776 := Nat.le_trans (by
              unfold pairsOf
              conv => rhs; rw [← List.take_append_drop (j + 1) es, List.flatMap_append, List.length_append]
              omega) hn
            have HTA := Lib.hid hta
            rw [hta, List.length_append] at hlen
            clear hta
            generalize es[j] = ej at *
            generalize pairsOf (es.take j) = ps at *
            obtain ⟨C, cc, rfl, _, _⟩ := hr.form
            have hbA := bel_alloc hbj (.cells #[.int .i64 ej.kind, .int .i64 ej.seq, .slice C ej.pairs.length cc] 58)
            have hrA := hr.al (.cells #[.int .i64 ej.kind, .int .i64 ej.seq, .slice C ej.pairs.length cc] 58)
            have hOA := hO.below (bel_alloc (Below.refl _ _) (.cells #[.int .i64 ej.kind, .int .i64 ej.seq, .slice C ej.pairs.length cc] 58))
            have hlt := hO.lt
            have hz := hbwj.size
            have hz2 := hbw.size
            have hz3 := hbA.size
            go_wp2_with (at_builtin; go_loud (refine wpList_append_sl pairK elemPair rfl _ _ 33 rfl Tryz.underlying33 rfl hOA rfl hrA (deepF (fun k hk h => by have := hlt k hk; omega) (fun _ h => h)) (deepF (fun k hk h => by have := hlt k hk; omega) (fun k h => by omega)) (by unfold maxLen; omega) (by omega) hz3 ?_; rintro v' w' ⟨hO2, hg2, hat2⟩))
            go_roundw
            case rel => exact ⟨j + 1, by go_num, by omega, bel_grown hbA hg2 (fun k hk => (hlt k hk).1), by rw [HTA.out]; exact hO2⟩
            case measure => simp [intOf]; omega
          · obtain ⟨C, cc, rfl, _, _⟩ := hO.sl.form
            have GX := Lib.hid (GR.out _ _ _ _ (one_slice 33 hO.sl))
            clear hO
            go_wp2_with (go_at_call 33; refine GX.out.mono ?_; rintro e w3 ⟨⟨n3, rfl⟩, hb3⟩)
            go_ret
            exact ⟨⟨_, rfl⟩, bel_trans (bel_alloc (bel_trans hbw hbj) _) hb3⟩
end Go.Proofs.YtlhdndnohmikeaaGreatDoor
