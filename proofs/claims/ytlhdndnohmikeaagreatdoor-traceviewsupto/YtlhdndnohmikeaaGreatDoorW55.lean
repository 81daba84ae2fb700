/-
  Walks: Size and Great, what they come to.
-/
import Derived.Test.YtlhdndnohmikeaaGreatDoorMW48
import Derived.Shelf.RegionOpenPlain
set_option linter.unusedVariables false
set_option linter.unusedSimpArgs false
namespace Go.Proofs.YtlhdndnohmikeaaGreatDoor
open Go.RowKit

def rowSize (r : List Cell) : Nat := (r.map (·.text.size)).sum
def pairSize (p : Pair) : Nat := 1 + rowSize p.row + p.row.length
def pairsSize (l : List Pair) : Nat := (l.map pairSize).sum
def totSize (l : List (List Pair)) : Nat := (l.map pairsSize).sum
def pairsOf2 (es : List Entry) : List Pair := es.flatMap (·.pairs)
theorem sum_take {α : Type} (f : α → Nat) (l : List α) (k : Nat) (h : k < l.length) : ((l.take (k + 1)).map f).sum = ((l.take k).map f).sum + f l[k] := by
  rw [List.take_add_one, List.getElem?_eq_getElem h, List.map_append, List.sum_append]
  simp
theorem sum_take_le {α : Type} (f : α → Nat) (l : List α) (k : Nat) : ((l.take k).map f).sum ≤ (l.map f).sum := by
  conv => rhs; rw [← List.take_append_drop k l, List.map_append, List.sum_append]
  omega
theorem sum_get_le {α : Type} (f : α → Nat) (l : List α) (k : Nat) (h : k < l.length) : f l[k] ≤ (l.map f).sum := by
  have h1 := sum_take f l k h
  have h2 := sum_take_le f l (k + 1)
  omega
theorem size2_calls (r : List Cell) (v : Value) (w : World) (F : Nat → Prop) (hr : SL cellK w F v r) (hb : rowSize r ≤ 1099511627776) :
    Calls Tryz.prog 81 #[v] w fun e w' => e = .returned (.int .i64 (rowSize r : Nat)) ∧ w = w' := by
  have hl := hr.len_le
  unfold maxLen at hl
  obtain ⟨A, c, rfl, _, _⟩ := hr.form
  go_enter Tryz.func81, Tryz.ntmps81
  go_wp2
  go_loopw [3, 4] (fun x i wr => ∃ (n k : Nat), x = .int .i64 n ∧ i = .int .i64 k ∧ k ≤ r.length ∧ w = wr ∧ Hid (n = rowSize (r.take k))) (fun _ i _ => r.length - (intOf i).toNat)
  case atStart => exact ⟨0, 0, rfl, rfl, by omega, rfl, rfl⟩
  case round =>
    obtain ⟨n, k, rfl, rfl, hk, rfl, hn⟩ := hrel
    by_cases hlt : k < r.length
    · obtain ⟨ad, rfl, l1, x0, x1, _, _⟩ := cell_at hr hlt
      have k0 : (k : Int) < r.length := by omega
      have h1 := sum_take (fun c : Cell => c.text.size) r k hlt
      have h2 := sum_take_le (fun c : Cell => c.text.size) r (k + 1)
      have hs : n + r[k].text.size ≤ 1099511627776 := by
        have := hn.out
        unfold rowSize at this hb
        omega
      have HN : Hid (n + r[k].text.size = rowSize (r.take (k + 1))) := by
        show _ = _
        have := hn.out
        unfold rowSize at this ⊢
        omega
      clear h1 h2
      generalize r[k].text = tx at *
      have hw : IntKind.i64.wrap ((n : Int) + tx.size) = ((n + tx.size : Nat) : Int) := by rw [IntWalk.i64_in _ (by omega)]; simp
      go_wp2
      go_roundw
      case rel => exact ⟨n + tx.size, k + 1, by first | rfl | (congr 1) | simp, by go_num, by omega, trivial, HN⟩
      case measure => simp [intOf]; omega
    · have hk' : k = r.length := by omega
      have HK := Lib.hid hk'
      clear hk'
      go_wp2
      go_ret
      refine ⟨?_, rfl⟩
      have := hn.out
      rw [HK.out, List.take_length] at this
      exact ret_int (by rw [this])
set_option maxRecDepth 100000 in
set_option maxHeartbeats 1000000 in
theorem great8b_calls (l : List (List Pair)) (v : Value) (w : World) (F : Nat → Prop) (hv : SL (rowK pairK) w F v l) (hb : totSize l ≤ 1099511627776) :
    Calls Tryz.prog 33 #[v] w fun e w' => e = .returned (.int .i64 (if 5000 < totSize l then 1 else 0)) ∧ Below w.heap.size w w' := by
  have hl := hv.len_le
  unfold maxLen at hl
  obtain ⟨A, c, rfl, _, _⟩ := hv.form
  have HBT := Lib.hid hb
  obtain ⟨gz, hgz⟩ : ∃ gz, (if 5000 < totSize l then (1 : Int) else 0) = gz := ⟨_, rfl⟩
  rw [hgz]
  have HGZ := Lib.hid hgz
  clear hgz
  go_enter Tryz.func33, Tryz.ntmps33
  go_wp2
  go_loopw [3, 10] (fun x i wr => ∃ (n k : Nat), x = .int .i64 n ∧ i = .int .i64 k ∧ k ≤ l.length ∧ Below w.heap.size w wr ∧ Hid (n = totSize (l.take k))) (fun _ i _ => l.length - (intOf i).toNat)
  case atStart => exact ⟨0, 0, rfl, rfl, by omega, Below.refl _ _, rfl⟩
  case round =>
    obtain ⟨n, k, rfl, rfl, hk, hbr, hn⟩ := hrel
    by_cases hlt : k < l.length
    · obtain ⟨ad, r, rfl, l1, x0, hr⟩ := row_at (hv.below hbr) hlt
      have k0 : (k : Int) < l.length := by omega
      have h1 := sum_take pairsSize l k hlt
      have h2 := sum_take_le pairsSize l (k + 1)
      have HN : Hid (totSize (l.take (k + 1)) = n + pairsSize l[k]) := by
        show _ = _
        have := hn.out
        unfold totSize at this ⊢
        omega
      have hs : n + pairsSize l[k] ≤ 1099511627776 := by
        have := HN.out
        unfold totSize at this hb
        omega
      have HS := Lib.hid hs
      clear h1 h2 hs
      generalize l[k] = ps at *
      have hl2 := hr.len_le
      unfold maxLen at hl2
      obtain ⟨B, d, rfl, _, _⟩ := hr.form
      go_wp2
      rename World => wo
      go_loopw [3, 16] (fun x i wr => ∃ (m j : Nat), x = .int .i64 m ∧ i = .int .i64 j ∧ j ≤ ps.length ∧ Below wo.heap.size wo wr ∧ Hid (m = n + pairsSize (ps.take j))) (fun _ i _ => ps.length - (intOf i).toNat)
      case atStart => exact ⟨n, 0, rfl, rfl, by omega, Below.refl _ _, rfl⟩
      case round =>
        obtain ⟨m, j, rfl, rfl, hj, hbj, hm⟩ := hrel
        by_cases hlj : j < ps.length
        · obtain ⟨ap, rv, rfl, l3, y0, y1, hrow, _⟩ := pair_at (hr.below hbj) hlj
          have j0 : (j : Int) < ps.length := by omega
          have h1 := sum_take pairSize ps j hlj
          have h2 := sum_take_le pairSize ps (j + 1)
          have HM : Hid (n + pairsSize (ps.take (j + 1)) = m + pairSize ps[j]) := by
            show _ = _
            have := hm.out
            unfold pairsSize at this ⊢
            omega
          have hms : m + pairSize ps[j] ≤ 1099511627776 := by
            have h3 := HM.out
            have h4 := HS.out
            unfold pairsSize at h3 h4
            omega
          clear h1 h2
          generalize ps[j] = p at *
          have hps : pairSize p = 1 + rowSize p.row + p.row.length := rfl
          have hrb : rowSize p.row ≤ 1099511627776 := by omega
          obtain ⟨C, cc, rfl, _, _⟩ := hrow.form
          have hrow' := ((hrow.any.below (bel_alloc (Below.refl _ _) (.cells #[.slice C p.row.length cc, .int .i64 p.weight] 94)))).drew
          have SZ := Lib.hid (size2_calls p.row _ _ _ hrow' hrb)
          have HPS : Hid (pairSize p = 1 + rowSize p.row + p.row.length) := hps
          clear hrow hrow' hps
          generalize rowSize p.row = rs at *
          generalize hpp : pairSize p = pz at *
          have hz : pz = 1 + rs + p.row.length := HPS.out
          have hw1 : IntKind.i64.wrap (1 + (rs : Int)) = 1 + (rs : Int) := IntWalk.i64_in _ (by omega)
          have hw2 : IntKind.i64.wrap (1 + (rs : Int) + (p.row.length : Int)) = (pz : Int) := by rw [IntWalk.i64_in _ (by omega)]; omega
          have hw3 : IntKind.i64.wrap ((m : Int) + (pz : Int)) = ((m + pz : Nat) : Int) := by rw [IntWalk.i64_in _ (by omega)]; omega
          clear hz hpp
          go_wp2_with fail
          go_region_held3 (fun w' => w'.cell? ⟨wr.heap.size, 0, none⟩ = some (.slice C p.row.length cc))
            (first
              | exact cell_new_at _ _ _ _ _ _ rfl rfl
              | assumption)
            (first | (go_at_call 81; go_loud (refine SZ.out.mono ?_; rintro e w2 ⟨rfl, rfl⟩)))
          go_wp2_with fail
          go_roundw
          case rel => exact ⟨m + pz, j + 1, by first | rfl | simp, by go_num, by omega, bel_drew (bel_alloc hbj _), by show _ = _; rw [HM.out]⟩
          case measure => simp [intOf]; omega
        · have hj' : j = ps.length := by omega
          have HJ := Lib.hid hj'
          clear hj'
          go_wp2
          go_roundw
          case rel => exact ⟨m, k + 1, rfl, by go_num, by omega, bel_trans hbr hbj, by show _ = _; rw [HN.out, hm.out, HJ.out, List.take_length]⟩
          case measure => simp [intOf]; omega
    · have hk' : k = l.length := by omega
      have HK := Lib.hid hk'
      clear hk'
      go_wp2
      all_goals go_ret
      all_goals refine ⟨ret_int ?_, hbr⟩
      all_goals have hnt := hn.out
      all_goals rw [HK.out, List.take_length] at hnt
      all_goals rw [← HGZ.out]
      · rw [if_pos (by omega)]
      · rw [if_neg (by omega)]
theorem rows_one (l : List Pair) : totSize [l] = pairsSize l := by simp [totSize]
theorem pairsSize_append (a b : List Pair) : pairsSize (a ++ b) = pairsSize a + pairsSize b := by simp [pairsSize]
theorem one_slice2 {α : Type} {d : Kind α} {w : World} {F : Nat → Prop} {v : Value} {xs : List α} (e : Nat) (h : SL d w F v xs) : SL (rowK d) (w.alloc (.cells #[v] e)) (fun k => F k ∨ k = w.heap.size) (.slice (some ⟨w.heap.size, 0, none⟩) 1 1) [xs] :=
  SL.single (d := rowK d) (cs := [v]) e ⟨v, rfl, h⟩
theorem pairsOf2_get (es : List Entry) (k : Nat) (h : k < es.length) : pairsOf2 (es.take (k + 1)) = pairsOf2 (es.take k) ++ es[k].pairs := by
  unfold pairsOf2
  rw [List.take_add_one, List.getElem?_eq_getElem h, List.flatMap_append]; simp
theorem pairsOf2_le (es : List Entry) (k : Nat) : pairsSize (pairsOf2 (es.take k)) ≤ pairsSize (pairsOf2 es) := by
  conv => rhs; rw [← List.take_append_drop k es]
  unfold pairsOf2
  rw [List.flatMap_append, pairsSize_append]
  omega
theorem pairs_le_size (l : List Pair) : l.length ≤ pairsSize l := by
  induction l with
  | nil => simp
  | cons p l ih => simp only [pairsSize, List.map_cons, List.sum_cons, List.length_cons, pairSize] at ih ⊢; omega
set_option maxRecDepth 100000 in
set_option maxHeartbeats 2000000 in
theorem great13b_calls (s : List Col) (es : List Entry) (vs ve : Value) (w : World) (F G : Nat → Prop) (hs : SL colK w F vs s) (he : SL entryK w G ve es) (hn : pairsSize (pairsOf2 es) ≤ 1099511627776) :
    Calls Tryz.prog 27 #[.agg #[vs, ve]] w fun e w' => (∃ n, e = .returned (.int .i64 n) ∧ (¬ 0 < n → es.length ≤ 30 ∧ pairsSize (pairsOf2 es) ≤ 5000)) ∧ Below w.heap.size w w' := by
  have hl := he.len_le
  unfold maxLen at hl
  obtain ⟨A, c, rfl, _, _⟩ := hs.form
  obtain ⟨B, d, rfl, _, _⟩ := he.form
  have GR := Lib.hid (fun W v l F (h : SL (rowK pairK) W F v [l]) (hb : pairsSize l ≤ 1099511627776) => great8b_calls [l] v W F h (by rw [rows_one]; exact hb))
  simp only [rows_one] at GR
  have c0 := cell_new_at w #[.slice A s.length c, .slice B es.length d] 46 0 _ (.slice A s.length c) rfl rfl
  have c1 := cell_new_at w #[.slice A s.length c, .slice B es.length d] 46 1 _ (.slice B es.length d) rfl rfl
  have hb0 : Below w.heap.size w (w.alloc (.cells #[.slice A s.length c, .slice B es.length d] 46)) := bel_alloc (Below.refl _ _) _
  clear hs
  go_enter Tryz.func27, Tryz.ntmps27
  go_wp2_with fail
  generalize hwa : w.alloc (.cells #[.slice A s.length c, .slice B es.length d] 46) = wa at *
  go_loopw [3, 12] (fun x i wr => ∃ (n : Int) (k : Nat), x = .int .i64 n ∧ i = .int .i64 k ∧ k ≤ es.length ∧ Below wa.heap.size wa wr) (fun _ i _ => es.length - (intOf i).toNat)
  case atStart => exact ⟨0, 0, rfl, rfl, by omega, Below.refl _ _⟩
  case round =>
    obtain ⟨n, k, rfl, rfl, hk, hbr'⟩ := hrel
    have hbw := bel_trans hb0 hbr'
    by_cases hlt : k < es.length
    · obtain ⟨ad, r, rfl, l1, x0, x1, x2, hr, _, _⟩ := entry_at (he.below hbw) hlt
      have k0 : (k : Int) < es.length := by omega
      have hsz : pairsSize es[k].pairs ≤ 1099511627776 := by
        have h1 := pairsOf2_le es (k + 1)
        rw [pairsOf2_get es k hlt, pairsSize_append] at h1
        omega
      generalize es[k] = ek at *
      obtain ⟨C, cc, rfl, _, _⟩ := hr.form
      have hx := one_slice2 33 (hr.any.below (bel_alloc (Below.refl _ _) (.cells #[.int .i64 ek.kind, .int .i64 ek.seq, .slice C ek.pairs.length cc] 58))).drew
      have GX := Lib.hid (GR.out _ _ _ _ hx hsz)
      have hbA := bel_alloc hbr' (.cells #[.int .i64 ek.kind, .int .i64 ek.seq, .slice C ek.pairs.length cc] 58)
      generalize (if 5000 < pairsSize ek.pairs then (1 : Int) else 0) = gz at *
      clear hr hx
      go_wp2_with fail
      have c2 := cell_new_at wr #[.int .i64 ek.kind, .int .i64 ek.seq, .slice C ek.pairs.length cc] 58 2 _ (.slice C ek.pairs.length cc) rfl rfl
      generalize hwx : wr.alloc (.cells #[.int .i64 ek.kind, .int .i64 ek.seq, .slice C ek.pairs.length cc] 58) = wx at *
      go_region_held3 (fun w' => w'.cell? ⟨wr.heap.size, 2, none⟩ = some (.slice C ek.pairs.length cc))
        (first
          | exact c2
          | exact cell_al (by assumption) _
          | exact cell_by hb2 (by assumption)
          | exact cell_by hb2 (cell_al (by assumption) _))
        (first | (go_at_call 33; go_loud (refine GX.out.mono ?_; rintro e w2 ⟨rfl, hb2⟩)))
      go_wp2_with fail
      go_roundw
      case rel => exact ⟨_, k + 1, rfl, by go_num, by omega, bel_trans (bel_alloc (bel_drew hbA) _) hb2⟩
      case measure => simp [intOf]; omega
    · have d0 := cell_by hbr' c0
      have d1 := cell_by hbr' c1
      go_wp2_with fail
      all_goals first | (go_ret; exact ⟨⟨_, rfl, fun h => by omega⟩, hbw⟩) | skip
      · rename World => wo
        clear d0 d1 c0 c1 hbr'
        have hl30 : es.length ≤ 30 := by omega
        have HL30 := Lib.hid hl30
        go_loopw [6, 44] (fun x i wr => ∃ (j : Nat), i = .int .i64 j ∧ j ≤ es.length ∧ Below wo.heap.size wo wr ∧ Own pairK 94 wr wo.heap.size (fun k => k < wo.heap.size) x (pairsOf2 (es.take j))) (fun _ i _ => es.length - (intOf i).toNat)
        case atStart => exact ⟨0, rfl, by omega, Below.refl _ _, by simpa [pairsOf2] using Own.nil _ _ _ _ _⟩
        case round =>
          obtain ⟨j, rfl, hj, hbj, hO⟩ := hrel
          by_cases hlj : j < es.length
          · have hbwj := bel_trans hbw hbj
            obtain ⟨ad, r, rfl, l1, x0, x1, x2, hr, _, _⟩ := entry_at (he.since hbwj) hlj
            have j0 : (j : Int) < es.length := by omega
            have hta := pairsOf2_get es j hlj
            have hlen : (pairsOf2 (es.take (j + 1))).length ≤ 1099511627776 := Nat.le_trans (pairs_le_size _) (Nat.le_trans (pairsOf2_le es (j + 1)) hn)
            have HTA := Lib.hid hta
            rw [hta, List.length_append] at hlen
            clear hta
            generalize es[j] = ej at *
            generalize pairsOf2 (es.take j) = ps at *
            obtain ⟨C, cc, rfl, _, _⟩ := hr.form
            have hbA := bel_alloc hbj (.cells #[.int .i64 ej.kind, .int .i64 ej.seq, .slice C ej.pairs.length cc] 58)
            have hrA := hr.al (.cells #[.int .i64 ej.kind, .int .i64 ej.seq, .slice C ej.pairs.length cc] 58)
            have hOA := hO.below (bel_alloc (Below.refl _ _) (.cells #[.int .i64 ej.kind, .int .i64 ej.seq, .slice C ej.pairs.length cc] 58))
            have hlt := hO.lt
            have hz := hbwj.size
            have hz2 := hbw.size
            have hz3 := hbA.size
            go_wp2_with (at_builtin; go_loud (refine wpList_append_sl pairK elemPair rfl _ _ 33 rfl Tryz.underlying33 rfl hOA rfl hrA (deepF (fun k hk h => by have := hlt k hk; omega) (fun _ h => h)) (deepF (fun k hk h => by have := hlt k hk; omega) (fun k h => by omega)) (by unfold maxLen; omega) (by omega) hz3 ?_; rintro v' w' ⟨hO2, hg2, hat2⟩))
            go_roundw
            case rel => exact ⟨j + 1, by go_num, by omega, bel_grown hbA hg2 (fun k hk => (hlt k hk).1), by rw [HTA.out]; exact hO2⟩
            case measure => simp [intOf]; omega
          · have hj' : j = es.length := by omega
            rw [hj', List.take_length] at hO
            clear hj'
            obtain ⟨C, cc, rfl, _, _⟩ := hO.sl.form
            have GX := Lib.hid (GR.out _ _ _ _ (one_slice2 33 hO.sl) hn)
            clear hO
            have HI : Hid (¬ 0 < (if 5000 < pairsSize (pairsOf2 es) then (1 : Int) else 0) → pairsSize (pairsOf2 es) ≤ 5000) := by
              show _ → _
              intro h
              split at h <;> omega
            generalize (if 5000 < pairsSize (pairsOf2 es) then (1 : Int) else 0) = gz at *
            go_wp2_with (go_at_call 33; refine GX.out.mono ?_; rintro e w3 ⟨rfl, hb3⟩)
            go_ret
            exact ⟨⟨_, rfl, fun h => by first | exact ⟨HL30.out, HI.out h⟩ | exact HI.out h⟩, bel_trans (bel_alloc (bel_trans hbw hbj) _) hb3⟩
end Go.Proofs.YtlhdndnohmikeaaGreatDoor
