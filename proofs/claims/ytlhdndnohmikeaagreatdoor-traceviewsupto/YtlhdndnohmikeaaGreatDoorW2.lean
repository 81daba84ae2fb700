/-
  Walks: what is wrong with a cell.
-/
import Derived.Test.YtlhdndnohmikeaaGreatDoorShelf
set_option linter.unusedVariables false
set_option linter.unusedSimpArgs false
namespace Go.Proofs.YtlhdndnohmikeaaGreatDoor
open Go.RowKit

def kindB (k : Int) : Bool := decide (-1 < k) && decide (k ≤ 5)
def textB (k : Int) : Bool := k == 3 || k == 4
def emptyB (s : ByteArray) : Bool := s.toList.isEmpty
def cellCheck (k : Int) (c : Cell) : Int :=
  if kindB k = false then 10
  else if (textB k && c.num != 0) = true then 11
  else if (!textB k && !emptyB c.text) = true then 11
  else if (k == 2 && decide (1 < c.num)) = true then 11
  else if (k == 4 && !validB c.text) = true then 11
  else if 256 < (c.text.size : Int) then 7 else 0

theorem kindly_calls (k : Int) (w : World) : Calls Tryz.prog 154 #[.int .i64 k] w fun e w' => e = .returned (.bool (kindB k)) ∧ w = w' := by
  by_cases h : -1 < k
  · have h1 : decide (-1 < k) = true := decide_eq_true h
    go_enter Tryz.func154, Tryz.ntmps154
    go_wp2
    go_ret
    exact ⟨ret_bool (by simp [kindB, h]), rfl⟩
  · have h1 : decide (-1 < k) = false := decide_eq_false h
    go_enter Tryz.func154, Tryz.ntmps154
    go_wp2
    go_ret
    exact ⟨ret_bool (by simp [kindB]; omega), rfl⟩
theorem texty_calls (k : Int) (w : World) : Calls Tryz.prog 155 #[.int .i64 k] w fun e w' => e = .returned (.bool (textB k)) ∧ w = w' := by
  by_cases h : k = 3
  · have h1 : (k == 3) = true := beq_true_ h
    subst h
    go_enter Tryz.func155, Tryz.ntmps155
    go_wp2
    go_ret
    exact ⟨ret_bool (by decide), rfl⟩
  · have h1 : (k == 3) = false := beq_false_ h
    go_enter Tryz.func155, Tryz.ntmps155
    go_wp2
    go_ret
    exact ⟨ret_bool (by simp [textB, h]), rfl⟩

set_option maxHeartbeats 1000000 in
theorem cellCheck_calls (k : Int) (c : Cell) (w : World) (hG : Glob w) (hs : c.text.size ≤ maxLen) :
    Calls Tryz.prog 119 #[.int .i64 k, .agg #[.int .u64 c.num, .string c.text]] w fun e w' => e = .returned (.int .i64 (cellCheck k c)) ∧ Below w.heap.size w w' := by
  have hs' := hs
  unfold maxLen at hs'
  go_enter Tryz.func119, Tryz.ntmps119
  go_wp2_with (first
    | (go_at_call 154; refine (kindly_calls k _).mono ?_; rintro e w' ⟨rfl, rfl⟩)
    | (go_at_call 155; refine (texty_calls k _).mono ?_; rintro e w' ⟨rfl, rfl⟩)
    | (go_at_call 156; refine (valid_calls c.text _ (hG.below ?_) hs).mono ?_; rotate_left 1; rintro e w' ⟨rfl, hb⟩; obtain ⟨hc, hf⟩ := bcell hb))
  all_goals first
    | exact bel_alloc (Below.refl _ _) _
    | (go_ret; refine ⟨ret_int ?_, ?_⟩; rotate_left 1; first | exact bel_alloc (Below.refl _ _) _ | exact bel_trans (bel_alloc (Below.refl _ _) _) (by assumption))
  all_goals (go_light; clear hG hs; first | (simp_all [cellCheck, emptyB]; done) | (simp_all [cellCheck, emptyB]; grind))
end Go.Proofs.YtlhdndnohmikeaaGreatDoor
