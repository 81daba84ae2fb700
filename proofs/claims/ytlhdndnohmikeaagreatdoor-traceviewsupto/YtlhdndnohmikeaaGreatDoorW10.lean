/-
  Walks: what is wrong with a Z-set.
-/
import Derived.Test.YtlhdndnohmikeaaGreatDoorW9
set_option linter.unusedVariables false
set_option linter.unusedSimpArgs false
namespace Go.Proofs.YtlhdndnohmikeaaGreatDoor
open Go.RowKit

/-- Whether the row ahead is not smaller. -/
def late (s : List Col) (q : Option (List Cell)) (r : List Cell) : Bool := match q with | some p => decide (0 ≤ rowCompare s p r) | none => false
def zsetLoop (s : List Col) : Option (List Cell) → List Pair → Int
  | _, [] => 0
  | q, p :: ps => if rowCheck s p.row ≠ 0 then rowCheck s p.row else if p.weight = 0 then 2 else if late s q p.row then 9 else zsetLoop s (some p.row) ps
def zsetCheck (s : List Col) (l : List Pair) : Int := if schemaCheck s ≠ 0 then schemaCheck s else if 1024 < l.length then 13 else zsetLoop s none l
/-- The row ahead of place k. -/
def ahead (l : List Pair) : Nat → Option (List Cell)
  | 0 => none
  | j + 1 => l[j]?.map (·.row)

set_option maxHeartbeats 1000000 in
set_option maxRecDepth 100000 in
theorem zsetCheck_calls (s : List Col) (l : List Pair) (vs vl : Value) (w : World) (F G : Nat → Prop) (hG : Glob w) (hs : SL colK w F vs s) (hl : SL pairK w G vl l) :
    Calls Tryz.prog 83 #[vs, vl] w fun e w' => e = .returned (.int .i64 (zsetCheck s l)) ∧ Below w.heap.size w w' := by
  have hll := hl.len_le
  unfold maxLen at hll
  obtain ⟨A, c, rfl, _, _⟩ := hs.form
  obtain ⟨B, c', rfl, _, _⟩ := hl.form
  obtain ⟨sc, hsc⟩ : ∃ sc, schemaCheck s = sc := ⟨_, rfl⟩
  have hSC : Calls Tryz.prog 69 #[.slice A s.length c] w fun e w' => e = .returned (.int .i64 sc) ∧ Below w.heap.size w w' := hsc ▸ schemaCheck_calls s _ w F hG hs
  have SC := Lib.hid hSC
  clear hSC
  by_cases h0 : sc = 0
  · by_cases hn : 1024 < l.length
    · have HF : Hid (zsetCheck s l = 13) := by show _ = _; simp [zsetCheck, hsc, h0, hn]
      have hn2 : decide ((1024 : Int) < (l.length : Int)) = true := decide_eq_true (by omega)
      subst h0
      clear hn hsc
      go_enter Tryz.func83, Tryz.ntmps83
      go_wp2_with (go_at_call 69; refine SC.out.mono ?_; rintro e w1 ⟨rfl, hb1⟩)
      go_ret
      exact ⟨ret_int HF.out.symm, by assumption⟩
    · have HF : Hid (zsetCheck s l = zsetLoop s none l) := by show _ = _; simp [zsetCheck, hsc, h0, hn]
      have hn2 : decide ((1024 : Int) < (l.length : Int)) = false := decide_eq_false (by omega)
      subst h0
      clear hn hsc
      go_enter Tryz.func83, Tryz.ntmps83
      go_wp2_with (go_at_call 69; refine SC.out.mono ?_; rintro e w1 ⟨rfl, hb1⟩)
      clear hn2
      go_loopw [19] (fun i wr => ∃ (k : Nat), k ≤ l.length ∧ i = .int .i64 k ∧ Below w.heap.size w wr ∧ Hid (zsetLoop s none l = zsetLoop s (ahead l k) (l.drop k))) (fun i _ => l.length - (intOf i).toNat)
      case atStart => exact ⟨0, by omega, rfl, by assumption, rfl⟩
      case round =>
        obtain ⟨k, hk, rfl, hbw, hT⟩ := hrel
        by_cases hlt : k < l.length
        · obtain ⟨bd, r, rfl, l2, y0, y1, y2, y3⟩ := pair_at (hl.below hbw) hlt
          have k0 : (k : Int) < l.length := by omega
          have hstep : Hid (zsetLoop s none l = if rowCheck s l[k].row ≠ 0 then rowCheck s l[k].row else if l[k].weight = 0 then 2 else if late s (ahead l k) l[k].row then 9 else zsetLoop s (ahead l (k + 1)) (l.drop (k + 1))) := by
            show _ = _
            have ha : ahead l (k + 1) = some l[k].row := by simp [ahead, List.getElem?_eq_getElem hlt]
            rw [hT.out, List.drop_eq_getElem_cons hlt, zsetLoop, ha]
          obtain ⟨D, cd, rfl, _, _⟩ := y2.form
          obtain ⟨wt, hwt⟩ : ∃ x, l[k].weight = x := ⟨_, rfl⟩
          obtain ⟨row, hrow⟩ : ∃ x, l[k].row = x := ⟨_, rfl⟩
          rw [hwt] at hstep y1 y3
          rw [hrow] at hstep y0 y2
          obtain ⟨rc, hrc⟩ : ∃ x, rowCheck s row = x := ⟨_, rfl⟩
          rw [hrc] at hstep
          have hRC : ∀ W : World, Below wr.heap.size wr W → Calls Tryz.prog 70 #[.slice A s.length c, .slice D row.length cd] W fun e w' => e = .returned (.int .i64 rc) ∧ Below W.heap.size W w' := fun W h => hrc ▸ rowCheck_calls s row _ _ W _ _ ((hG.below hbw).below h) ((hs.below hbw).below h) (y2.below h)
          have RC := Lib.hid hRC
          clear hRC hrc hwt hT
          have hGw : Glob wr := hG.below hbw
          have hsw := hs.below hbw
          have hlw := hl.below hbw
          by_cases hr0 : rc = 0
          · have er : (rc != 0) = false := bne_false hr0
            have hstep1 := hstep.out
            rw [if_neg (by simpa using hr0)] at hstep1
            by_cases hw0 : wt = 0
            · have ew : (wt == 0) = true := beq_true_ hw0
              rw [if_pos hw0] at hstep1
              have HS := Lib.hid hstep1
              clear hw0 hr0 hstep1 hstep
              go_wp2_with (first | (go_at_call 70; refine (RC.out _ (bel_alloc (Below.refl _ _) _)).mono ?_; rintro e w2 ⟨rfl, hb2⟩; have hb3 := bel_trans (bel_alloc (Below.refl wr.heap.size wr) _) hb2; have q1 : w2.cell? ⟨wr.heap.size, 1, none⟩ = some (.int .i64 wt) := ((bcell hb2).1 _ _ (by simp)).trans (by simp)))
              go_ret
              exact ⟨ret_int (by rw [HF.out, HS.out]), bel_trans hbw hb3⟩
            · have ew : (wt == 0) = false := beq_false_ hw0
              rw [if_neg hw0] at hstep1
              by_cases hk0 : k = 0
              · have ek : decide (0 < k) = false := decide_eq_false (by omega)
                have hah : ahead l k = none := by rw [hk0]; rfl
                have hlate : late s (ahead l k) row = false := by rw [hah]; rfl
                rw [hlate, if_neg (by simp)] at hstep1
                have HS := Lib.hid hstep1
                clear hw0 hr0 hstep1 hstep hk0 hah hlate
                go_wp2_with (first | (go_at_call 70; refine (RC.out _ (bel_alloc (Below.refl _ _) _)).mono ?_; rintro e w2 ⟨rfl, hb2⟩; have hb3 := bel_trans (bel_alloc (Below.refl wr.heap.size wr) _) hb2; have q1 : w2.cell? ⟨wr.heap.size, 1, none⟩ = some (.int .i64 wt) := ((bcell hb2).1 _ _ (by simp)).trans (by simp)))
                refine wp_region_later mixed (by kernel_rfl) ?_
                repeat (go_big_quiet_step (fail))
                refine wpQuiet_nil ?_
                intro w3 hw3
                have hb4 := bel_trans hb3 (later_below hw3)
                clear hw3 hb3 hb2 q1
                go_wp2
                go_roundw
                case rel =>
                  refine ⟨k + 1, by omega, by go_num, bel_trans hbw hb4, ?_⟩
                  show _ = _
                  rw [HS.out]
                case measure => simp [intOf]; omega
              · obtain ⟨j, hj⟩ : ∃ j, k = j + 1 := ⟨k - 1, by omega⟩
                have hjl : j < l.length := by omega
                have ek : decide (0 < k) = true := decide_eq_true (by omega)
                have hah : ahead l k = some l[j].row := by rw [hj]; simp [ahead, List.getElem?_eq_getElem hjl]
                have hj1 : (k : Int) - 1 = (j : Int) := by omega
                have hj2 : (j : Int) < l.length := by omega
                obtain ⟨bd', r', hbd, _, u0, u1, u2, u3⟩ := pair_at hlw hjl
                obtain rfl : bd = bd' := by injection hbd
                obtain ⟨D', cd', rfl, _, _⟩ := u2.form
                obtain ⟨prow, hprow⟩ : ∃ x, l[j].row = x := ⟨_, rfl⟩
                rw [hprow] at u0 u2 hah
                obtain ⟨cv, hcv⟩ : ∃ x, rowCompare s prow row = x := ⟨_, rfl⟩
                have hlate : late s (ahead l k) row = decide (0 ≤ cv) := by rw [hah]; simp [late, hcv]
                rw [hlate] at hstep1
                have hCC : ∀ W : World, Below wr.heap.size wr W → Calls Tryz.prog 74 #[.slice A s.length c, .slice D' prow.length cd', .slice D row.length cd] W fun e w' => e = .returned (.int .i64 cv) ∧ Below W.heap.size W w' := fun W h => hcv ▸ rowCompare_calls s prow row _ _ _ W _ _ _ (hGw.below h) (hsw.below h) (u2.below h) (y2.below h)
                have CC := Lib.hid hCC
                clear hCC hcv hprow hah hlate hj hk0
                obtain ⟨lb, hlb⟩ : ∃ x, decide (0 ≤ cv) = x := ⟨_, rfl⟩
                rw [hlb] at hstep1
                have HS := Lib.hid hstep1
                clear hw0 hr0 hstep1 hstep
                go_wp2_with (first | (go_at_call 70; refine (RC.out _ (bel_alloc (Below.refl _ _) _)).mono ?_; rintro e w2 ⟨rfl, hb2⟩; have hb3 := bel_trans (bel_alloc (Below.refl wr.heap.size wr) _) hb2; have q1 : w2.cell? ⟨wr.heap.size, 1, none⟩ = some (.int .i64 wt) := ((bcell hb2).1 _ _ (by simp)).trans (by simp); have q0 : w2.cell? ⟨wr.heap.size, 0, none⟩ = some (.slice D row.length cd) := ((bcell hb2).1 _ _ (by simp)).trans (by simp); have v0 := ((hb3.cell (World.block_lt_of_cell? wr _ u0))).trans u0))
                have z0 := fun p : Later w2 => later_cell q0 p
                have z1 := fun p : Later w2 => later_cell v0 p
                refine wp_region_later mixed (by kernel_rfl) ?_
                repeat (go_big_quiet_step ((go_at_call 74; exact later_of (CC.out _ (bel_trans hb3 (Later.below _))))))
                refine wpQuiet_nil ?_
                intro w3 hw3
                have hb4 := bel_trans hb3 (later_below hw3)
                clear hw3 hb3 hb2 q1 z0 z1 q0 v0
                have HLB := Lib.hid (show l.length - (intOf (Value.int IntKind.i64 (↑k + 1))).toNat < l.length - (intOf (Value.int IntKind.i64 ↑k)).toNat by simp [intOf]; omega)
                cases lb
                · rw [if_neg (by simp)] at HS
                  clear hlb ek hj1 hj2
                  go_wp2
                  go_roundw
                  case rel => exact ⟨k + 1, by omega, by go_num, bel_trans hbw hb4, Lib.hid HS.out⟩
                  case measure => exact HLB.out
                · rw [if_pos rfl] at HS
                  clear hlb ek hj1 hj2
                  go_wp2
                  go_ret
                  exact ⟨ret_int (by rw [HF.out, HS.out]), bel_trans hbw hb4⟩
          · have er : (rc != 0) = true := bne_true hr0
            have hstep1 := hstep.out
            rw [if_pos (by simpa using hr0)] at hstep1
            have HS := Lib.hid hstep1
            clear hr0 hstep hstep1
            go_wp2_with (first | (go_at_call 70; refine (RC.out _ (bel_alloc (Below.refl _ _) _)).mono ?_; rintro e w2 ⟨rfl, hb2⟩; have hb3 := bel_trans (bel_alloc (Below.refl wr.heap.size wr) _) hb2))
            go_ret
            exact ⟨ret_int (by rw [HF.out, HS.out]), bel_trans hbw hb3⟩
        · have hk' : k = l.length := by omega
          have HK := Lib.hid hk'
          clear hk'
          go_wp2
          go_ret
          refine ⟨ret_int ?_, hbw⟩
          rw [HF.out, hT.out, HK.out, List.drop_length, zsetLoop]
  · have HF : Hid (zsetCheck s l = sc) := by show _ = _; simp [zsetCheck, hsc, h0]
    have hn2 : (sc != 0) = true := bne_true h0
    clear h0 hsc
    go_enter Tryz.func83, Tryz.ntmps83
    go_wp2_with (go_at_call 69; refine SC.out.mono ?_; rintro e w1 ⟨rfl, hb1⟩)
    go_ret
    exact ⟨ret_int HF.out.symm, by assumption⟩
end Go.Proofs.YtlhdndnohmikeaaGreatDoor
