/-
  Walks: slices.Grow, Concat of two sets; the sum of two sets.
  Walks: the sum of two sets.
-/
import Derived.Test.YtlhdndnohmikeaaGreatDoorW23
import Derived.Test.YtlhdndnohmikeaaGreatDoorLay2
set_option linter.unusedVariables false
set_option linter.unusedSimpArgs false
namespace Go.Proofs.YtlhdndnohmikeaaGreatDoor
open Go.RowKit

theorem growPair_calls (n : Nat) (w : World) (F : Nat → Prop) (hn : n ≤ 1099511627776) :
    Calls Tryz.prog 128 #[.slice none 0 0, .int .i64 n] w fun e w' => (∃ v, e = .returned v ∧ Own pairK 94 w' w.heap.size F v []) ∧ Below w.heap.size w w' := by
  by_cases h0 : n = 0
  · subst h0
    refine (Any8.slices_Grow_room Tryz.growPair none 0 0 0 w (by omega) (by omega) (by omega) (by omega)).mono ?_
    rintro e w' ⟨rfl, rfl⟩
    exact ⟨⟨_, rfl, Own.nil _ _ _ _ _⟩, Below.refl _ _⟩
  · obtain ⟨i, z, hi, hz, hs, hb, hzs⟩ := elemPair.info
    refine (Any8.slices_Grow_grow Tryz.growPair i z hi hz (by rw [hs]; omega) none 0 0 n [] w (by omega) (by omega) (by rw [hb]; omega) (by omega) (by simp) (fun _ => rfl) (fun a h => by cases h)).mono ?_
    rintro e w' ⟨rfl, rfl⟩
    refine ⟨⟨_, rfl, [], ⟨by simp, .inr ⟨w.heap.size, _, _, rfl, Nat.le_refl _, heap_alloc_new w.drew _, by simp, ?_, ?_, by simp⟩⟩, .nil⟩, bel_alloc (bel_drew (Below.refl _ _)) _⟩
    · exact grownCap_le_maxLen _ _ _ _ (by unfold maxLen; omega)
    · have h1 := grownCap_ge w (0 + n) 0 94
      simp only [Array.size_append, size_zeroCells, hzs, List.size_toArray, List.length_nil]
      show _ = _ * 2
      show 0 + (0 + n - 0) * 2 + (grownCap w (0 + n) 0 94 - (0 + n)) * 2 = grownCap w (0 + n) 0 94 * 2
      omega
set_option maxRecDepth 100000 in
set_option maxHeartbeats 1000000 in
theorem concatPair_calls (xss : List (List Pair)) (vv : Value) (w : World) (F : Nat → Prop) (hs : SL (rowK pairK) w F vv xss) (hn : xss.flatten.length ≤ 1099511627776) :
    Calls Tryz.prog 84 #[vv] w fun e w' => (∃ v, e = .returned v ∧ Own pairK 94 w' w.heap.size (fun k => F k ∧ k < w.heap.size) v xss.flatten) ∧ Below w.heap.size w w' := by
  have hl := hs.len_le
  unfold maxLen at hl
  obtain ⟨A, c, rfl, _, _⟩ := hs.form
  go_enter Tryz.func84, Tryz.ntmps84
  go_wp2
  go_loopw [3, 11] (fun vs vi wr => ∃ k : Nat, k ≤ xss.length ∧ vs = .int .i64 (((xss.take k).flatten.length : Nat) : Int) ∧ vi = .int .i64 k ∧ w = wr) (fun _ vi _ => xss.length - (intOf vi).toNat)
  case atStart => exact ⟨0, by omega, by simp, by simp, by simp⟩
  case round =>
    obtain ⟨k, hk, rfl, rfl, rfl⟩ := hrel
    by_cases hlt : k < xss.length
    · obtain ⟨ad, r, rfl, l1, x0, x1⟩ := row_at hs hlt
      obtain ⟨B, c1, rfl, _, _⟩ := x1.form
      have k0 : (k : Int) < xss.length := by omega
      have hle := flatten_le xss (k + 1)
      have hsum : (xss.take (k + 1)).flatten.length = (xss.take k).flatten.length + xss[k].length := by
        rw [List.take_succ_eq_append_getElem hlt, List.flatten_append, List.length_append]; simp
      obtain ⟨m, hm⟩ : ∃ m, (xss.take k).flatten.length = m := ⟨_, rfl⟩
      obtain ⟨q, hq⟩ : ∃ q, xss[k].length = q := ⟨_, rfl⟩
      rw [hm, hq] at hsum
      rw [hm]
      have hmq : m + q ≤ 1099511627776 := by omega
      have HS := Lib.hid hsum
      have hge : ¬ ((m : Int) + q < 0) := by omega
      rw [hq] at x0 x1
      clear hsum hm hq hle
      go_wp2
      go_roundw
      case rel => exact ⟨k + 1, by omega, by rw [HS.out]; go_num, by go_num, by simp⟩
      case measure => simp [intOf]; omega
    · have hk' : k = xss.length := by omega
      have HK := Lib.hid hk'
      obtain ⟨m, hm⟩ : ∃ m, (xss.take k).flatten.length = m := ⟨_, rfl⟩
      have hmn : m ≤ 1099511627776 := by rw [← hm]; exact Nat.le_trans (flatten_le xss k) hn
      rw [hm]
      have HGc := Lib.hid (growPair_calls m w (fun k => F k ∧ k < w.heap.size) hmn)
      clear hk' hm
      go_wp2_with (go_at_call 128; refine HGc.out.mono ?_; rintro e w1 ⟨⟨v, rfl, hown⟩, hb1⟩)
      go_loopw [6, 27] (fun vo vi wr => ∃ k : Nat, k ≤ xss.length ∧ vi = .int .i64 k ∧ Own pairK 94 wr w.heap.size (fun k => F k ∧ k < w.heap.size) vo (xss.take k).flatten ∧ Below w.heap.size w wr) (fun _ vi _ => xss.length - (intOf vi).toNat)
      case atStart => exact ⟨0, by omega, rfl, by simpa using hown, hb1⟩
      case round =>
        obtain ⟨j, hj, rfl, hO, hbr⟩ := hrel
        by_cases hlj : j < xss.length
        · obtain ⟨ad, r, rfl, l1, x0, x1⟩ := row_at (hs.since hbr) hlj
          obtain ⟨B, c1, rfl, _, _⟩ := x1.form
          have k0 : (j : Int) < xss.length := by omega
          have hle := flatten_le xss (j + 1)
          have hsum : (xss.take (j + 1)).flatten = (xss.take j).flatten ++ xss[j] := by
            rw [List.take_succ_eq_append_getElem hlj, List.flatten_append]; simp
          rw [hsum, List.length_append] at hle
          have HS := Lib.hid hsum
          have hvl := fun k hk => (hO.lt k hk).1
          have hlen : (xss.take j).flatten.length + xss[j].length ≤ 1099511627776 := by omega
          clear hsum hle
          go_wp2_with (at_builtin; refine wpList_append_sl pairK elemPair rfl _ _ 33 rfl Tryz.underlying33 rfl hO rfl x1 (deepF (fun k hk h => by have h1 := hvl k hk; have h2 := h.2; omega) (fun _ h => h)) (deepF (fun k hk h => by have h1 := hvl k hk; have h2 := h.2; omega) (fun _ h => h)) (by unfold maxLen; omega) (by omega) hbr.size ?_; rintro v' w' ⟨hO2, hg2, hat2⟩)
          go_roundw
          case rel => exact ⟨j + 1, by omega, by go_num, by rw [HS.out]; exact hO2, bel_grown hbr hg2 (fun k hk => hvl k hk)⟩
          case measure => simp [intOf]; omega
        · have hj' : j = xss.length := by omega
          have hO2 := hO
          rw [hj', List.take_length] at hO2
          have HO2 := Lib.hid hO2
          clear hj' hO2 hO
          go_wp2
          go_ret
          exact ⟨⟨_, rfl, HO2.out⟩, hbr⟩
end Go.Proofs.YtlhdndnohmikeaaGreatDoor

set_option linter.unusedVariables false
set_option linter.unusedSimpArgs false
namespace Go.Proofs.YtlhdndnohmikeaaGreatDoor
open Go.RowKit

theorem rows_two {α : Type} {d : Kind α} {w : World} {F : Nat → Prop} {va vb : Value} {a b : List α} (e : Nat) (ha : SL d w F va a) (hb : SL d w F vb b) :
    SL (rowK d) (w.alloc (.cells #[va, vb] e)) (fun k => F k ∨ k = w.heap.size) (.slice (some ⟨w.heap.size, 0, none⟩) 2 2) [a, b] := by
  have k1 : ∀ {v : Value} {x : List α}, SL d w F v x → (rowK d).rel (w.alloc (.cells #[va, vb] e)) (fun k => F k ∨ k = w.heap.size) x [v] := fun h => ⟨_, rfl, (h.keep (Kept.alloc _ _ _) (by simp)).wid fun k hk _ => .inl hk⟩
  refine ⟨_, 2, [va, vb], rfl, by simp, by unfold maxLen; omega, fun _ => ⟨_, rfl, .inr rfl, by simp, fun j u hu => ?_⟩, .cons (k1 ha) (.cons (k1 hb) .nil)⟩
  have hh : (w.alloc (.cells #[va, vb] e)).heap[w.heap.size]? = some (.cells #[va, vb] e (0, 0)) := heap_alloc_new w _
  rw [show ((⟨w.heap.size, 0, none⟩ : Addr).add j) = ⟨w.heap.size, j, none⟩ by unfold Addr.add; split <;> simp_all]
  rw [cell_of_row _ _ _ _ _ _ hh]
  simpa using hu
def checksLoop (s : List Col) : List (List Pair) → Int
  | [] => 0
  | l :: ls => if zsetCheck s l ≠ 0 then zsetCheck s l else checksLoop s ls
theorem zsetCheck_len {s : List Col} {l : List Pair} (h : zsetCheck s l = 0) : l.length ≤ 1024 := by
  unfold zsetCheck at h
  split at h
  · omega
  · split at h <;> omega
theorem checks_all {s : List Col} : ∀ {ls : List (List Pair)}, checksLoop s ls = 0 → ∀ l ∈ ls, zsetCheck s l = 0
  | [], _, _, h => by cases h
  | x :: ls, h, l, hl => by
    simp only [checksLoop] at h
    by_cases h0 : zsetCheck s x = 0
    · simp only [h0, ne_eq, not_true_eq_false, if_false] at h
      rcases List.mem_cons.1 hl with rfl | hl
      · exact h0
      · exact checks_all h l hl
    · simp [h0] at h
/-- What the sum of two sets is. -/
def Summed (s : List Col) (a b out : List Pair) (ec : Int) : Prop := (checksLoop s [a, b] ≠ 0 ∧ out = [] ∧ ec = checksLoop s [a, b]) ∨ (checksLoop s [a, b] = 0 ∧ Collected s (a ++ b) out ec)
def SumPost (s : List Col) (a b : List Pair) (w : World) (e : Ending) (w' : World) : Prop :=
  (∃ vo out ec, e = .returned (.tuple #[vo, .int .i64 ec]) ∧ SL pairK w' (fun k => w.heap.size ≤ k) vo out ∧ Summed s a b out ec) ∧ Below w.heap.size w w'

set_option maxRecDepth 100000 in
set_option maxHeartbeats 1000000 in
theorem zsetSum_calls (s : List Col) (a b : List Pair) (vs va vb : Value) (w : World) (F G H : Nat → Prop) (hG : Glob w) (hs : SL colK w F vs s) (ha : SL pairK w G va a) (hb : SL pairK w H vb b) :
    Calls Tryz.prog 36 #[vs, va, vb] w (SumPost s a b w) := by
  obtain ⟨S, c, rfl, _, _⟩ := hs.form
  obtain ⟨A, ca, rfl, _, _⟩ := ha.form
  obtain ⟨B, cb, rfl, _, _⟩ := hb.form
  have hX := rows_two 33 ha.any hb.any
  obtain ⟨xss, hxs⟩ : ∃ xss, [a, b] = xss := ⟨_, rfl⟩
  have hxl : xss.length = 2 := by rw [← hxs]; rfl
  have hb1 : Below w.heap.size w (w.alloc (.cells #[.slice A a.length ca, .slice B b.length cb] 33)) := bel_alloc (Below.refl _ _) _
  have HF1 : Hid (∀ ec, checksLoop s xss ≠ 0 → ec = checksLoop s xss → Summed s a b [] ec) := fun ec h h2 => .inl ⟨by rw [hxs]; exact h, rfl, by rw [hxs]; exact h2⟩
  have HF2 : Hid (∀ out ec, checksLoop s xss = 0 → Collected s xss.flatten out ec → Summed s a b out ec) := fun out ec h h2 => .inr ⟨by rw [hxs]; exact h, by rw [← hxs] at h2; simpa using h2⟩
  have HX2 : Hid (∀ W : World, Below w.heap.size w W → SL (rowK pairK) (W.alloc (.cells #[.slice A a.length ca, .slice B b.length cb] 33)) (fun _ => True) (.slice (some ⟨W.heap.size, 0, none⟩) 2 2) xss) := fun W h => by
    rw [← hxs]; exact (rows_two _ (ha.below h).any (hb.below h).any).any
  have HFL : Hid (checksLoop s xss = 0 → xss.flatten.length ≤ 1099511627776) := fun h => by
    have h1 := zsetCheck_len (checks_all h a (by rw [← hxs]; simp))
    have h2 := zsetCheck_len (checks_all h b (by rw [← hxs]; simp))
    rw [← hxs]; simp; omega
  rw [hxs] at hX
  have hst : Hid (checksLoop s xss = checksLoop s (xss.drop 0)) := by show _ = _; simp
  have HL := Lib.hid hxl
  clear hxs hxl
  go_enter Tryz.func36, Tryz.ntmps36
  go_wp2
  generalize hW1 : w.alloc (.cells #[.slice A a.length ca, .slice B b.length cb] 33) = w1 at hX hb1 ⊢
  clear hW1
  go_loopw [15] (fun vi wr => ∃ k : Nat, k ≤ 2 ∧ vi = .int .i64 k ∧ Below w1.heap.size w1 wr ∧ Hid (checksLoop s xss = checksLoop s (xss.drop k))) (fun vi _ => 2 - (intOf vi).toNat)
  case atStart => exact ⟨0, by omega, by simp, Below.refl _ _, hst⟩
  case round =>
    obtain ⟨k, hk, rfl, hbr, hT⟩ := hrel
    have hbw := bel_trans hb1 hbr
    by_cases hlt : k < 2
    · have hkx : k < xss.length := by rw [HL.out]; exact hlt
      obtain ⟨ad, r, had, l1, x0, x1⟩ := row_at (hX.below hbr) hkx
      obtain rfl := (Option.some.inj had)
      obtain ⟨D, cd, rfl, _, _⟩ := x1.form
      have x0' : wr.cell? ⟨w.heap.size, k, none⟩ = some (.slice D xss[k].length cd) := by
        rw [← x0]; unfold Addr.add; split <;> simp_all
      obtain ⟨zc, hzc⟩ : ∃ z, zsetCheck s xss[k] = z := ⟨_, rfl⟩
      have hstep : Hid (checksLoop s xss = if zc ≠ 0 then zc else checksLoop s (xss.drop (k + 1))) := by
        show _ = _
        rw [hT.out, List.drop_eq_getElem_cons hkx, checksLoop, hzc]
      have hC := zsetCheck_calls s xss[k] _ _ wr _ _ (hG.below hbw) (hs.below hbw) x1
      rw [hzc] at hC
      have ZC := Lib.hid hC
      clear hC hzc x0
      by_cases hz : zc = 0
      · have ez : (zc != 0) = false := bne_false hz
        have HS := Lib.hid (show checksLoop s xss = checksLoop s (xss.drop (k + 1)) by rw [hstep.out, if_neg (by simpa using hz)])
        clear hz hstep hT
        go_wp2_with (go_at_call 83; refine ZC.out.mono ?_; rintro e w2 ⟨rfl, hb2⟩)
        go_roundw
        case rel => exact ⟨k + 1, by omega, by go_num, bel_trans hbr hb2, HS⟩
        case measure => simp [intOf]; omega
      · have ez : (zc != 0) = true := bne_true hz
        have HS := Lib.hid (show checksLoop s xss ≠ 0 ∧ zc = checksLoop s xss by rw [hstep.out, if_pos (by simpa using hz)]; exact ⟨hz, rfl⟩)
        clear hz hstep hT
        go_wp2_with (go_at_call 83; refine ZC.out.mono ?_; rintro e w2 ⟨rfl, hb2⟩)
        refine bodyPost_ret (results_tmp2 rfl _ _ _) rfl ⟨⟨.slice none 0 0, [], zc, by simp, SL.nil _ _ _, HF1.out _ HS.out.1 HS.out.2⟩, bel_trans hbw hb2⟩
    · have HZ : Hid (checksLoop s xss = 0) := by
        show _ = _
        rw [hT.out, List.drop_of_length_le (by rw [HL.out]; omega), checksLoop]
      have hX3 := HX2.out wr hbw
      have hb3 : Below w.heap.size w (wr.alloc (.cells #[.slice A a.length ca, .slice B b.length cb] 33)) := bel_alloc hbw _
      have CC := Lib.hid (concatPair_calls xss _ _ _ hX3 (HFL.out HZ.out))
      clear hT hX3
      go_wp2_with (first
        | (go_at_call 84; refine CC.out.mono ?_; rintro e w4 ⟨⟨v4, rfl, hown⟩, hb4⟩; have hbw4 := bel_trans hb3 hb4)
        | (go_at_call 31; refine (collect_calls s xss.flatten _ _ w4 _ _ (hG.below hbw4) (hs.below hbw4) hown.sl (HFL.out HZ.out)).mono ?_; rintro e w5 ⟨⟨vo, out, ec, rfl, hso, hco⟩, hb5⟩))
      refine bodyPost_ret (results_tmp2 rfl _ _ _) rfl ⟨⟨vo, out, ec, by simp, hso.wid (fun k hk _ => by have := hbw4.size; omega), HF2.out _ _ HZ.out hco⟩, bel_trans hbw4 hb5⟩
end Go.Proofs.YtlhdndnohmikeaaGreatDoor
