/-
  Walks: cells, rows and pairs held against each other.
-/
import Derived.Test.YtlhdndnohmikeaaGreatDoorBase
set_option linter.unusedVariables false
set_option linter.unusedSimpArgs false
namespace Go.Proofs.YtlhdndnohmikeaaGreatDoor
open Go.RowKit

set_option maxHeartbeats 400000 in
theorem equalCells_calls (a b : List Cell) (va vb : Value) (w : World) (F G : Nat → Prop) (ha : SL cellK w F va a) (hb : SL cellK w G vb b) :
    Calls Tryz.prog 122 #[va, vb] w fun e w' => e = .returned (.bool (decide (a = b))) ∧ Below w.heap.size w w' := by
  have hla := ha.len_le
  have hlb := hb.len_le
  unfold maxLen at hla hlb
  obtain ⟨A, c, rfl, _, _⟩ := ha.form
  obtain ⟨B, c', rfl, _, _⟩ := hb.form
  by_cases hn : a.length = b.length
  · have hn1 : ((a.length : Int) == b.length) = true := by simp [hn]
    have hn2 : ((a.length : Int) != b.length) = false := by simp [hn]
    have HN := Lib.hid hn
    clear hn
    go_enter Tryz.func122, Tryz.ntmps122
    go_wp2
    clear hn1 hn2
    go_loopw [13] (fun i wr => ∃ k : Nat, k ≤ b.length ∧ i = .int .i64 k ∧ Below w.heap.size w wr ∧ Hid (a.take k = b.take k)) (fun i _ => b.length - (intOf i).toNat)
    case atStart => exact ⟨0, by omega, rfl, Below.refl _ _, rfl⟩
    case round =>
      obtain ⟨k, hk, rfl, hbw, hT⟩ := hrel
      by_cases hlt : k < b.length
      · have hka : k < a.length := by have := HN.out; omega
        obtain ⟨ad, rfl, l1, x0, x1, _, _⟩ := cell_at (ha.below hbw) hka
        obtain ⟨bd, rfl, l2, y0, y1, _, _⟩ := cell_at (hb.below hbw) hlt
        have ka0 : (k : Int) < a.length := by omega
        have kb0 : (k : Int) < b.length := by omega
        have hne := neq_cell a[k] b[k]
        have hs : Hid (a[k].beq b[k] = true → a.take (k + 1) = b.take (k + 1)) := fun h => by
          rw [List.take_succ_eq_append_getElem hka, List.take_succ_eq_append_getElem hlt, hT.out, Cell.beq_iff.1 h]
        have hs' : Hid (a[k].beq b[k] = false → decide (a = b) = false) := fun h => by
          refine decide_eq_false fun e => ?_
          subst e
          rw [Cell.beq_iff.2 rfl] at h
          cases h
        cases hbq : a[k].beq b[k]
        · rw [hbq] at hne
          have hs2 := Lib.hid (hs'.out hbq)
          clear hbq
          go_wp2
          go_quiet (fail)
          go_wp2
          go_ret
          exact ⟨ret_bool hs2.out.symm, below_drewN hbw _⟩
        · rw [hbq] at hne
          have hs2 := Lib.hid (hs.out hbq)
          clear hbq
          go_wp2
          go_quiet (fail)
          go_wp2
          go_roundw
          case rel => exact ⟨k + 1, by omega, by go_num, below_drewN hbw _, hs2⟩
          case measure => simp [intOf]; omega
      · have hkb : k = b.length := by omega
        have hT2 := hT
        clear hT
        have HK := Lib.hid hkb
        have hka : ¬ k < a.length := by have := HN.out; omega
        clear hkb
        go_wp2
        go_ret
        refine ⟨?_, hbw⟩
        have h1 := HN.out
        have h2 := hT2.out
        rw [HK.out, List.take_length, ← h1, List.take_length] at h2
        exact ret_bool (decide_eq_true h2).symm
  · have hn1 : ((a.length : Int) == b.length) = false := beq_false_ (by omega)
    have hn2 : ((a.length : Int) != b.length) = true := bne_true (by omega)
    have HN := Lib.hid hn
    clear hn
    go_enter Tryz.func122, Tryz.ntmps122
    go_wp2
    go_ret
    exact ⟨ret_bool (decide_eq_false (fun e => HN.out (by rw [e]))).symm, Below.refl _ _⟩

theorem rowSame_calls (a b : List Cell) (va vb : Value) (w : World) (F G : Nat → Prop) (ha : SL cellK w F va a) (hb : SL cellK w G vb b) :
    Calls Tryz.prog 75 #[va, vb] w fun e w' => e = .returned (.bool (decide (a = b))) ∧ Below w.heap.size w w' := by
  go_enter Tryz.func75, Tryz.ntmps75
  go_wp2_with (go_at_call 122; refine (equalCells_calls a b va vb _ F G ha hb).mono ?_; rintro e w' ⟨rfl, hb'⟩)
  go_ret
  exact ⟨rfl, hb'⟩

set_option maxHeartbeats 400000 in
theorem zsetSame1_calls (p q : Pair) (va vb : Value) (w : World) (F G : Nat → Prop) (ha : SL cellK w F va p.row) (hb : SL cellK w G vb q.row) :
    Calls Tryz.prog 80 #[.agg #[va, .int .i64 p.weight], .agg #[vb, .int .i64 q.weight]] w fun e w' => e = .returned (.bool (decide (p = q))) ∧ Below w.heap.size w w' := by
  obtain ⟨A, c, rfl, _, _⟩ := ha.form
  obtain ⟨B, c', rfl, _, _⟩ := hb.form
  have hx : (p = q) ↔ (p.row = q.row ∧ p.weight = q.weight) := by
    obtain ⟨x, y⟩ := p
    obtain ⟨z, u⟩ := q
    simp
  by_cases h : p.weight = q.weight
  · have h1 : (p.weight == q.weight) = true := beq_true_ h
    have H : Hid (decide (p.row = q.row) = decide (p = q)) := by
      show _ = _
      simp [hx, h]
    clear h hx
    go_enter Tryz.func80, Tryz.ntmps80
    go_wp2_with (go_at_call 75; refine (rowSame_calls p.row q.row _ _ _ F G (ha.below ?_) (hb.below ?_)).mono ?_; rotate_left 2; rintro e w' ⟨rfl, hb'⟩)
    · go_ret
      exact ⟨ret_bool H.out, bel_trans (bel_alloc (bel_alloc (Below.refl _ _) _) _) (by assumption)⟩
    all_goals exact bel_alloc (bel_alloc (Below.refl _ _) _) _
  · have h1 : (p.weight == q.weight) = false := beq_false_ h
    have H : Hid (false = decide (p = q)) := by
      show _ = _
      simp [hx, h]
    clear h hx
    go_enter Tryz.func80, Tryz.ntmps80
    go_wp2
    go_ret
    exact ⟨ret_bool H.out, bel_alloc (bel_alloc (Below.refl _ _) _) _⟩

set_option maxHeartbeats 400000 in
theorem equalPairs_calls (a b : List Pair) (va vb : Value) (w : World) (F G : Nat → Prop) (ha : SL pairK w F va a) (hb : SL pairK w G vb b) :
    Calls Tryz.prog 79 #[va, vb, .func (.func 80) #[] #[]] w fun e w' => e = .returned (.bool (decide (a = b))) ∧ Below w.heap.size w w' := by
  have hla := ha.len_le
  have hlb := hb.len_le
  unfold maxLen at hla hlb
  obtain ⟨A, c, rfl, _, _⟩ := ha.form
  obtain ⟨B, c', rfl, _, _⟩ := hb.form
  by_cases hn : a.length = b.length
  · have hn1 : ((a.length : Int) == b.length) = true := by simp [hn]
    have hn2 : ((a.length : Int) != b.length) = false := by simp [hn]
    have HN := Lib.hid hn
    clear hn
    go_enter Tryz.func79, Tryz.ntmps79
    go_wp2
    clear hn1 hn2
    go_loopw [17] (fun i wr => ∃ k : Nat, k ≤ b.length ∧ i = .int .i64 k ∧ Below w.heap.size w wr ∧ Hid (a.take k = b.take k)) (fun i _ => b.length - (intOf i).toNat)
    case atStart => exact ⟨0, by omega, rfl, Below.refl _ _, rfl⟩
    case round =>
      obtain ⟨k, hk, rfl, hbw, hT⟩ := hrel
      by_cases hlt : k < b.length
      · have hka : k < a.length := by have := HN.out; omega
        obtain ⟨ad, ra, rfl, l1, x0, x1, x2, _⟩ := pair_at (ha.below hbw) hka
        obtain ⟨bd, rb, rfl, l2, y0, y1, y2, _⟩ := pair_at (hb.below hbw) hlt
        have ka0 : (k : Int) < a.length := by omega
        have kb0 : (k : Int) < b.length := by omega
        have hs : Hid (decide (a[k] = b[k]) = true → a.take (k + 1) = b.take (k + 1)) := fun h => by
          rw [List.take_succ_eq_append_getElem hka, List.take_succ_eq_append_getElem hlt, hT.out, of_decide_eq_true h]
        have hs' : Hid (decide (a[k] = b[k]) = false → decide (a = b) = false) := fun h => by
          refine decide_eq_false fun e => ?_
          subst e
          simp at h
        have y0' := cell_al y0
        have y1' := cell_al y1
        obtain ⟨A1, c1, rfl, _, _⟩ := x2.form
        obtain ⟨B1, c2, rfl, _, _⟩ := y2.form
        go_wp2_with (go_at_call 80; refine (zsetSame1_calls a[k] b[k] _ _ _ F G (x2.below ?_) (y2.below ?_)).mono ?_; rotate_left 2; rintro e w' ⟨rfl, hb'⟩)
        · go_ret
          exact ⟨ret_bool (hs'.out (by simpa using ‹(!decide (a[k] = b[k])) = true›)).symm, bel_trans hbw (bel_trans (bel_alloc (bel_alloc (Below.refl _ _) _) _) (by assumption))⟩
        · go_roundw
          case rel => exact ⟨k + 1, by omega, by go_num, bel_trans hbw (bel_trans (bel_alloc (bel_alloc (Below.refl _ _) _) _) (by assumption)), hs.out (by simpa using ‹(!decide (a[k] = b[k])) = false›)⟩
          case measure => simp [intOf]; omega
        all_goals exact bel_alloc (bel_alloc (Below.refl _ _) _) _
      · have hkb : k = b.length := by omega
        have hT2 := hT
        clear hT
        have HK := Lib.hid hkb
        have hka : ¬ k < a.length := by have := HN.out; omega
        clear hkb
        go_wp2
        go_ret
        refine ⟨?_, hbw⟩
        have h1 := HN.out
        have h2 := hT2.out
        rw [HK.out, List.take_length, ← h1, List.take_length] at h2
        exact ret_bool (decide_eq_true h2).symm
  · have hn1 : ((a.length : Int) == b.length) = false := beq_false_ (by omega)
    have hn2 : ((a.length : Int) != b.length) = true := bne_true (by omega)
    have HN := Lib.hid hn
    clear hn
    go_enter Tryz.func79, Tryz.ntmps79
    go_wp2
    go_ret
    exact ⟨ret_bool (decide_eq_false (fun e => HN.out (by rw [e]))).symm, Below.refl _ _⟩

theorem zsetSame_calls (a b : List Pair) (va vb : Value) (w : World) (F G : Nat → Prop) (ha : SL pairK w F va a) (hb : SL pairK w G vb b) :
    Calls Tryz.prog 32 #[va, vb] w fun e w' => e = .returned (.bool (decide (a = b))) ∧ Below w.heap.size w w' := by
  go_enter Tryz.func32, Tryz.ntmps32
  go_wp2_with (go_at_call 79; refine (equalPairs_calls a b va vb _ F G ha hb).mono ?_; rintro e w' ⟨rfl, hb'⟩)
  go_ret
  exact ⟨rfl, hb'⟩
end Go.Proofs.YtlhdndnohmikeaaGreatDoor
