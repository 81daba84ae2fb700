/-
  Walks: the order of two cells.
-/
import Derived.Test.YtlhdndnohmikeaaGreatDoorMW5
import Derived.StillTailTactics
import Derived.Deep.RegionHeld3
set_option linter.unusedVariables false
set_option linter.unusedSimpArgs false
namespace Go.Proofs.YtlhdndnohmikeaaGreatDoor
open Go.RowKit

def signBit : Int := 9223372036854775808
def rankOf (k n : Int) : Int := if k = 0 then bits .xor .u64 n 9223372036854775808 else if k = 5 then (if n < 9223372036854775808 then bits .xor .u64 n 9223372036854775808 else bits .xor .u64 IntKind.u64.max n) else n
theorem rank_calls (k n : Int) (w : World) (hn : U64 n) : Calls Tryz.prog 196 #[.int .i64 k, .int .u64 n] w fun e w' => e = .returned (.int .u64 (rankOf k n)) ∧ w = w' := by
  obtain ⟨n0, n1⟩ := hn
  by_cases h0 : k = 0
  · have e0 : (k == 0) = true := beq_true_ h0
    have HF : Hid (rankOf k n = bits .xor .u64 n 9223372036854775808) := by show _ = _; simp [rankOf, h0]
    clear h0
    go_enter Tryz.func196, Tryz.ntmps196
    go_wp2
    go_ret
    exact ⟨ret_int HF.out.symm, rfl⟩
  · have e0 : (k == 0) = false := beq_false_ h0
    by_cases h5 : k = 5
    · have e5 : (k == 5) = true := beq_true_ h5
      by_cases hs : n < 9223372036854775808
      · have es : decide (n < 9223372036854775808) = true := decide_eq_true hs
        have HF : Hid (rankOf k n = bits .xor .u64 n 9223372036854775808) := by show _ = _; simp [rankOf, h5, hs]
        clear h0 h5
        go_enter Tryz.func196, Tryz.ntmps196
        go_wp2
        go_ret
        exact ⟨ret_int HF.out.symm, rfl⟩
      · have es : decide (n < 9223372036854775808) = false := decide_eq_false hs
        have HF : Hid (rankOf k n = bits .xor .u64 IntKind.u64.max n) := by show _ = _; simp [rankOf, h5, hs]
        clear h0 h5
        go_enter Tryz.func196, Tryz.ntmps196
        go_wp2
        go_ret
        exact ⟨ret_int HF.out.symm, rfl⟩
    · have e5 : (k == 5) = false := beq_false_ h5
      have HF : Hid (rankOf k n = n) := by show _ = _; simp [rankOf, h5, h0]
      clear h0 h5
      go_enter Tryz.func196, Tryz.ntmps196
      go_wp2
      go_ret
      exact ⟨ret_int HF.out.symm, rfl⟩

def cmpInt (a b : Int) : Int := if a < b then -1 else if b < a then 1 else 0
set_option maxRecDepth 100000 in
theorem isNaN_calls (x : Int) (w : World) : Calls Tryz.prog 227 #[.int .u64 x] w fun e w' => e = .returned (.bool false) ∧ w = w' := by
  go_enter Tryz.func227, Tryz.ntmps227
  go_wp2
  go_ret
  exact ⟨ret_bool (by simp), rfl⟩
set_option maxRecDepth 100000 in
theorem cmpU64_calls (a b : Int) (w : World) : Calls Tryz.prog 195 #[.int .u64 a, .int .u64 b] w fun e w' => e = .returned (.int .i64 (cmpInt a b)) ∧ w = w' := by
  go_enter Tryz.func195, Tryz.ntmps195
  go_wp2_with (first | (go_at_call 227; refine (isNaN_calls a _).mono ?_; rintro e w' ⟨rfl, rfl⟩) | (go_at_call 227; refine (isNaN_calls b _).mono ?_; rintro e w' ⟨rfl, rfl⟩))
  all_goals (go_ret; refine ⟨ret_int ?_, rfl⟩; go_light; unfold cmpInt)
  · rw [if_pos (by assumption)]
  · rw [if_neg (by omega), if_pos (by assumption)]
  · rw [if_neg (by omega), if_neg (by omega)]
def anyK : Kind Int := flat 1 (by omega) (fun x => [.int .i64 x]) (fun _ => True) (fun _ => rfl) (fun x u hu => by simp at hu; subst hu; rfl)
theorem any_at {w : World} {F : Nat → Prop} {A : Option Addr} {n c : Nat} {xs : List Int} (h : SL anyK w F (.slice A n c) xs) {i : Nat} (hi : i < xs.length) :
    ∃ (ad : Addr), A = some ad ∧ ad.block < w.heap.size ∧ w.cell? (ad.add i) = some (.int .i64 xs[i]) := by
  obtain ⟨ad, c', cs, e, h1, h2, _, hl, ⟨rfl, hk⟩, hc⟩ := h.at_ (List.getElem?_eq_getElem hi)
  injection e with e _ _
  exact ⟨ad, e, hl, by simpa [anyK, flat] using at0 hc rfl⟩
theorem any_two (w : World) (x y : Int) (e : Nat) : SL anyK (w.alloc (.cells #[.int .i64 x, .int .i64 y] e)) (fun _ => True) (.slice (some ⟨w.heap.size, 0, none⟩) 2 2) [x, y] := by
  refine ⟨_, 2, [.int .i64 x, .int .i64 y], rfl, by simp, by unfold maxLen; omega, fun _ => ⟨_, rfl, trivial, by simp, fun j u hu => ?_⟩, .cons (c := [.int .i64 x]) ⟨rfl, trivial⟩ (.cons (c := [.int .i64 y]) ⟨rfl, trivial⟩ .nil)⟩
  have hb : (w.alloc (.cells #[.int .i64 x, .int .i64 y] e)).heap[w.heap.size]? = some (.cells #[.int .i64 x, .int .i64 y] e (0, 0)) := heap_alloc_new w _
  rw [show ((⟨w.heap.size, 0, none⟩ : Addr).add j) = ⟨w.heap.size, j, none⟩ by unfold Addr.add; split <;> simp_all]
  rw [cell_of_row _ _ _ _ _ _ hb]
  simpa using hu
def orOf : List Int → Int
  | [] => 0
  | x :: xs => if x ≠ 0 then x else orOf xs
set_option maxHeartbeats 400000 in
theorem or_calls (xs : List Int) (v : Value) (w : World) (F : Nat → Prop) (hs : SL anyK w F v xs) :
    Calls Tryz.prog 194 #[v] w fun e w' => e = .returned (.int .i64 (orOf xs)) ∧ w = w' := by
  have hl := hs.len_le
  unfold maxLen at hl
  obtain ⟨A, c, rfl, _, _⟩ := hs.form
  go_enter Tryz.func194, Tryz.ntmps194
  go_wp2
  go_loop [8] (fun i => ∃ k : Nat, k ≤ xs.length ∧ i = .int .i64 k ∧ Hid (orOf xs = orOf (xs.drop k))) (fun i => xs.length - (intOf i).toNat)
  case atStart => exact ⟨0, by omega, rfl, rfl⟩
  case round =>
    obtain ⟨k, hk, rfl, hT⟩ := hrel
    by_cases hlt : k < xs.length
    · obtain ⟨ad, rfl, l1, x0⟩ := any_at hs hlt
      have k0 : (k : Int) < xs.length := by omega
      have hstep : Hid (orOf xs = if xs[k] ≠ 0 then xs[k] else orOf (xs.drop (k + 1))) := by
        show _ = _
        rw [hT.out, List.drop_eq_getElem_cons hlt, orOf]
      by_cases hx : xs[k] = 0
      · have e0 : (xs[k] != 0) = false := bne_false hx
        have HX := Lib.hid hx
        clear hx
        go_wp2
        go_round
        case rel =>
          refine ⟨k + 1, by omega, by go_num, ?_⟩
          show _ = _
          rw [hstep.out, if_neg (by simpa using HX.out)]
        case measure => simp [intOf]; omega
      · have e0 : (xs[k] != 0) = true := bne_true hx
        have HX := Lib.hid hx
        clear hx
        go_wp2
        go_ret
        exact ⟨ret_int (by rw [hstep.out, if_pos HX.out]), rfl⟩
    · have hk' : k = xs.length := by omega
      have HK := Lib.hid hk'
      clear hk'
      go_wp2
      go_ret
      exact ⟨ret_int (by rw [hT.out, HK.out, List.drop_length]; rfl), rfl⟩

def cellCompare (k : Int) (a b : Cell) : Int :=
  if cellCheck k a ≠ 0 ∨ cellCheck k b ≠ 0 then 0 else orOf [cmpInt (rankOf k a.num) (rankOf k b.num), Lib.compareBytes a.text.data.toList b.text.data.toList]

set_option maxHeartbeats 1000000 in
set_option maxRecDepth 100000 in
theorem cellCompare_calls (k : Int) (a b : Cell) (w : World) (hG : Glob w) (ha : U64 a.num) (hb : U64 b.num) (hsa : a.text.size ≤ maxLen) (hsb : b.text.size ≤ maxLen) :
    Calls Tryz.prog 160 #[.int .i64 k, .agg #[.int .u64 a.num, .string a.text], .agg #[.int .u64 b.num, .string b.text]] w fun e w' => e = .returned (.int .i64 (cellCompare k a b)) ∧ Below w.heap.size w w' := by
  obtain ⟨ca, hca⟩ : ∃ x, cellCheck k a = x := ⟨_, rfl⟩
  obtain ⟨cb, hcb⟩ : ∃ x, cellCheck k b = x := ⟨_, rfl⟩
  have hCA : ∀ W : World, Glob W → Calls Tryz.prog 119 #[.int .i64 k, .agg #[.int .u64 a.num, .string a.text]] W fun e w' => e = .returned (.int .i64 ca) ∧ Below W.heap.size W w' := fun W h => hca ▸ cellCheck_calls k a W h hsa
  have hCB : ∀ W : World, Glob W → Calls Tryz.prog 119 #[.int .i64 k, .agg #[.int .u64 b.num, .string b.text]] W fun e w' => e = .returned (.int .i64 cb) ∧ Below W.heap.size W w' := fun W h => hcb ▸ cellCheck_calls k b W h hsb
  have CA := Lib.hid hCA
  have CB := Lib.hid hCB
  clear hCA hCB
  by_cases h0 : ca = 0
  · have e0 : (ca != 0) = false := bne_false h0
    by_cases h1 : cb = 0
    · have e1 : (cb != 0) = false := bne_false h1
      have HF : Hid (cellCompare k a b = orOf [cmpInt (rankOf k a.num) (rankOf k b.num), Lib.compareBytes a.text.data.toList b.text.data.toList]) := by show _ = _; simp [cellCompare, hca, hcb, h0, h1]
      clear h0 h1 hca hcb
      go_enter Tryz.func160, Tryz.ntmps160
      go_wp2_with (first
        | (go_at_call_of 119 (Value.agg #[.int .u64 a.num, .string a.text]); refine (CA.out _ (hG.below ?_)).mono ?_; rotate_left 1; rintro e w1 ⟨rfl, hb1⟩; obtain ⟨hc1, hf1⟩ := bcell hb1; have hbel1 := bel_trans (bel_alloc (bel_alloc (Below.refl _ _) _) _) hb1)
        | (go_at_call_of 119 (Value.agg #[.int .u64 b.num, .string b.text]); refine (CB.out _ (hG.below ?_)).mono ?_; rotate_left 1; rintro e w2 ⟨rfl, hb2⟩; obtain ⟨hc2, hf2⟩ := bcell hb2))
      · have hw1 : w.heap.size + 1 < w1.heap.size := by have := hb1.size; simp at this; omega
        have hw2 : w1.heap.size ≤ w2.heap.size := hb2.size
        have q0 : w2.cell? ⟨w.heap.size, 0, none⟩ = some (.int .u64 a.num) := by rw [hc2 _ _ (by omega), hc1 _ _ (by simp; omega)]; simp
        have q1 : w2.cell? ⟨w.heap.size, 1, none⟩ = some (.string a.text) := by rw [hc2 _ _ (by omega), hc1 _ _ (by simp; omega)]; simp
        have q2 : w2.cell? ⟨w.heap.size + 1, 0, none⟩ = some (.int .u64 b.num) := by rw [hc2 _ _ (by omega), hc1 _ _ (by simp)]; simp
        have q3 : w2.cell? ⟨w.heap.size + 1, 1, none⟩ = some (.string b.text) := by rw [hc2 _ _ (by omega), hc1 _ _ (by simp)]; simp
        have hbel2 : Below w.heap.size w w2 := bel_trans hbel1 hb2
        clear hb1 hb2 hc1 hf1 hc2 hf2 hw1 hw2 hbel1
        go_still_tail 14, mixed
        still_call (turn_eq (rank_calls k a.num _ ha))
        repeat still_step
        still_call (turn_eq (rank_calls k b.num _ hb))
        repeat still_step
        still_call (turn_eq (cmpU64_calls (rankOf k a.num) (rankOf k b.num) _))
        repeat still_step
        still_call (strCompare_calls a.text b.text _)
        repeat still_step
        refine wpStill_nil ?_
        go_wp2_with fail
        refine (or_calls _ _ _ _ ((any_two w2 _ _ 3).below (Below.refl _ _).drew)).mono ?_
        rintro e w3 ⟨rfl, rfl⟩
        go_wp2
        go_ret
        exact ⟨ret_int HF.out.symm, bel_drew (bel_alloc hbel2 _)⟩
      all_goals first | exact bel_alloc (bel_alloc (Below.refl _ _) _) _ | exact hbel1
    · have e1 : (cb != 0) = true := bne_true h1
      have HF : Hid (cellCompare k a b = 0) := by show _ = _; simp [cellCompare, hca, hcb, h0, h1]
      clear h0 h1 hca hcb
      go_enter Tryz.func160, Tryz.ntmps160
      go_wp2_with (first
        | (go_at_call_of 119 (Value.agg #[.int .u64 a.num, .string a.text]); refine (CA.out _ (hG.below ?_)).mono ?_; rotate_left 1; rintro e w1 ⟨rfl, hb1⟩; obtain ⟨hc1, hf1⟩ := bcell hb1; have hbel1 := bel_trans (bel_alloc (bel_alloc (Below.refl _ _) _) _) hb1)
        | (go_at_call_of 119 (Value.agg #[.int .u64 b.num, .string b.text]); refine (CB.out _ (hG.below ?_)).mono ?_; rotate_left 1; rintro e w2 ⟨rfl, hb2⟩; obtain ⟨hc2, hf2⟩ := bcell hb2))
      · go_ret
        exact ⟨ret_int HF.out.symm, bel_trans hbel1 hb2⟩
      all_goals first | exact bel_alloc (bel_alloc (Below.refl _ _) _) _ | exact hbel1
  · have e0 : (ca != 0) = true := bne_true h0
    have HF : Hid (cellCompare k a b = 0) := by show _ = _; simp [cellCompare, hca, h0]
    clear h0 hca hcb
    go_enter Tryz.func160, Tryz.ntmps160
    go_wp2_with (go_at_call_of 119 (Value.agg #[.int .u64 a.num, .string a.text]); refine (CA.out _ (hG.below ?_)).mono ?_; rotate_left 1; rintro e w1 ⟨rfl, hb1⟩; obtain ⟨hc1, hf1⟩ := bcell hb1; have hbel1 := bel_trans (bel_alloc (bel_alloc (Below.refl _ _) _) _) hb1)
    · go_ret
      exact ⟨ret_int HF.out.symm, hbel1⟩
    all_goals first | exact bel_alloc (bel_alloc (Below.refl _ _) _) _ | exact hbel1
end Go.Proofs.YtlhdndnohmikeaaGreatDoor
