/-
  Walks: sums of weights.
-/
import Derived.Test.YtlhdndnohmikeaaGreatDoorW10
import Derived.Laws.Externs
set_option linter.unusedVariables false
set_option linter.unusedSimpArgs false
namespace Go.Proofs.YtlhdndnohmikeaaGreatDoor
open Go.RowKit

theorem add64 (x y c : Int) (hx : 0 ≤ x) (hy : 0 ≤ y) (hc0 : 0 ≤ c) (hc : c ≤ 1) (w : World) : (callFunc 161 #[.int .u64 x, .int .u64 y, .int .u64 c]).run Tryz.prog w =
    .ok (.value (.tuple #[.int .u64 ((x + y + c) % 18446744073709551616), .int .u64 ((x + y + c) / 18446744073709551616)])) w := by
  rw [run_callFunc_extern Tryz.func161 (by kernel_rfl) (by kernel_rfl) (by kernel_rfl) (e := add64Entry) (by kernel_rfl), run_add64 x y c (by omega) (by omega) (by omega) (by omega)]
  rfl
theorem add64_0 (x y : Int) (hx : 0 ≤ x) (hy : 0 ≤ y) (w : World) : (callFunc 161 #[.int .u64 x, .int .u64 y, .int .u64 0]).run Tryz.prog w =
    .ok (.value (.tuple #[.int .u64 ((x + y) % 18446744073709551616), .int .u64 ((x + y) / 18446744073709551616)])) w := by
  simpa using add64 x y 0 hx hy (Int.le_refl 0) (by decide) w

/-- The two words hold T, to 128 bits. -/
def Wd (lo hi T : Int) : Prop := U64 lo ∧ U64 hi ∧ (lo + 18446744073709551616 * hi - T) % 340282366920938463463374607431768211456 = 0
theorem Wd.zero : Wd 0 0 0 := ⟨⟨by omega, by omega⟩, ⟨by omega, by omega⟩, by omega⟩
theorem Wd.add {lo hi T x xl sx : Int} (h : Wd lo hi T) (hx : I64 x) (h1 : xl = x % 18446744073709551616) (h2 : sx = (x / 9223372036854775808) % 18446744073709551616) :
    Wd ((lo + xl) % 18446744073709551616) ((hi + sx + (lo + xl) / 18446744073709551616) % 18446744073709551616) (T + x) := by
  obtain ⟨⟨a1, a2⟩, ⟨b1, b2⟩, h3⟩ := h
  obtain ⟨x1, x2⟩ := hx
  refine ⟨⟨by omega, by omega⟩, ⟨by omega, by omega⟩, ?_⟩
  by_cases hx0 : x < 0
  · have e1 : x / 9223372036854775808 = -1 := by omega
    have e2 : sx = 18446744073709551615 := by rw [h2, e1]; decide
    have e3 : xl = x + 18446744073709551616 := by omega
    subst e2 e3
    clear h1 h2 e1
    omega
  · have e1 : x / 9223372036854775808 = 0 := by omega
    have e2 : sx = 0 := by rw [h2, e1]; decide
    have e3 : xl = x := by omega
    subst e2 e3
    clear h1 h2 e1
    omega
/-- What a sum answers. -/
def fits (T : Int) : Bool := decide (-9223372036854775808 ≤ T ∧ T ≤ 9223372036854775807)

set_option maxRecDepth 100000 in
theorem plus_calls (lo hi x T : Int) (w : World) (hW : Wd lo hi T) (hx : I64 x) :
    Calls Tryz.prog 123 #[.agg #[.int .u64 lo, .int .u64 hi], .int .i64 x] w fun e w' => (∃ l h, e = .returned (.agg #[.int .u64 l, .int .u64 h]) ∧ Wd l h (T + x)) ∧ Below w.heap.size w w' := by
  have HW := Lib.hid hW
  have HX := Lib.hid hx
  obtain ⟨⟨a1, a2⟩, ⟨b1, b2⟩, _⟩ := hW
  have wx : 0 ≤ IntKind.u64.wrap x := by rw [wrapU]; omega
  have wx2 : IntKind.u64.wrap x < 18446744073709551616 := by rw [wrapU]; omega
  have wy : 0 ≤ IntKind.u64.wrap (x / 9223372036854775808) := by rw [wrapU]; omega
  have wc : 0 ≤ (lo + IntKind.u64.wrap x) / 18446744073709551616 := by omega
  have wc1 : (lo + IntKind.u64.wrap x) / 18446744073709551616 ≤ 1 := by omega
  go_enter Tryz.func123, Tryz.ntmps123
  go_wp2_with (first | simp only [add64_0 lo _ a1 wx] | simp only [add64 hi _ _ b1 wy wc wc1])
  refine bodyPost_ret (v := .agg #[.int .u64 ((lo + IntKind.u64.wrap x) % 18446744073709551616), .int .u64 ((hi + IntKind.u64.wrap (x / 9223372036854775808) + (lo + IntKind.u64.wrap x) / 18446744073709551616) % 18446744073709551616)]) ?_ rfl ⟨⟨_, _, rfl, HW.out.add HX.out (wrapU _) (wrapU _)⟩, ?_⟩
  · simp [results, Tryz.f123, go_sem]
  · exact bel_alloc (bel_alloc (Below.refl _ _) _) _

set_option maxRecDepth 100000 in
theorem weight_calls (lo hi T : Int) (w : World) (hW : Wd lo hi T) (hT : -170141183460469231731687303715884105728 ≤ T ∧ T < 170141183460469231731687303715884105728) :
    Calls Tryz.prog 124 #[.agg #[.int .u64 lo, .int .u64 hi]] w fun e w' => e = .returned (.tuple #[.int .i64 (if fits T then T else 0), .int .i64 (if fits T then 0 else 12)]) ∧ Below w.heap.size w w' := by
  have HW := Lib.hid hW
  obtain ⟨⟨a1, a2⟩, ⟨b1, b2⟩, h3⟩ := hW
  have hh : (hi != IntKind.u64.wrap (wrap64 lo / 9223372036854775808)) = !fits T := by
    rw [wrapU]
    unfold fits
    by_cases hl : lo < 9223372036854775808
    · have e1 : wrap64 lo = lo := by unfold wrap64; omega
      rw [e1]
      by_cases hT1 : -9223372036854775808 ≤ T ∧ T ≤ 9223372036854775807
      · rw [decide_eq_true hT1]
        simp
        omega
      · rw [decide_eq_false hT1]
        simp
        omega
    · have e1 : wrap64 lo = lo - 18446744073709551616 := by unfold wrap64; omega
      rw [e1]
      by_cases hT1 : -9223372036854775808 ≤ T ∧ T ≤ 9223372036854775807
      · rw [decide_eq_true hT1]
        simp
        omega
      · rw [decide_eq_false hT1]
        simp
        omega
  have hl : Hid (fits T = true → wrap64 lo = T) := by
    show _ → _
    intro hf
    have hf' := of_decide_eq_true hf
    unfold wrap64
    omega
  clear h3 hT
  cases hf : fits T
  · rw [hf] at hh
    have HFF := Lib.hid hf
    clear hf hl
    go_enter Tryz.func124, Tryz.ntmps124
    go_wp2
    refine bodyPost_ret (results_tmp2 rfl _ _ _) rfl ⟨?_, ?_⟩
    · simp
    · exact bel_alloc (Below.refl _ _) _
  · rw [hf] at hh
    have HL := Lib.hid (hl.out hf)
    clear hf hl
    go_enter Tryz.func124, Tryz.ntmps124
    go_wp2
    refine bodyPost_ret (results_tmp2 rfl _ _ _) rfl ⟨?_, ?_⟩
    · simp [HL.out]
    · exact bel_alloc (Below.refl _ _) _
/-- A variable of kind Total in block b holds the sum T. -/
def Tot (w : World) (b : Nat) (T : Int) : Prop := ∃ lo hi n : Int, Wd lo hi T ∧ w.cell? ⟨b, 0, none⟩ = some (.int .u64 lo) ∧ w.cell? ⟨b, 1, none⟩ = some (.int .u64 hi) ∧ w.cell? ⟨b, 2, none⟩ = some (.int .i64 n) ∧
  w.frozen? ⟨b, 0, none⟩ = false ∧ w.frozen? ⟨b, 1, none⟩ = false ∧ w.frozen? ⟨b, 2, none⟩ = false
theorem Tot.keep {w w' : World} {b : Nat} {T : Int} (h : Tot w b T) (hb : w'.heap[b]? = w.heap[b]?) : Tot w' b T := by
  obtain ⟨lo, hi, n, h1, h2, h3, h4, h5, h6, h7⟩ := h
  have c := fun o => World.cell?_of_block (w := w) (w' := w') (a := ⟨b, o, none⟩) hb
  have f := fun o => World.frozen?_of_block (w := w) (w' := w') (a := ⟨b, o, none⟩) hb
  exact ⟨lo, hi, n, h1, (c 0).trans h2, (c 1).trans h3, (c 2).trans h4, (f 0).trans h5, (f 1).trans h6, (f 2).trans h7⟩
theorem Tot.lt {w : World} {b : Nat} {T : Int} (h : Tot w b T) : b < w.heap.size := by
  obtain ⟨lo, hi, n, h1, h2, _⟩ := h
  exact World.block_lt_of_cell? w _ h2

theorem grown_b {w w' : World} (h : Below w.heap.size w w') (r : Option Nat) : w.grownBy w' r := ⟨h.os, h.tape, h.output, h.size, fun k hk _ => h.block k hk⟩
theorem grown_set (w : World) (a : Addr) (u : Value) : w.grownBy (w.setCell a u) (some a.block) :=
  ⟨rfl, rfl, rfl, by simp, fun k _ hk => Below.heap_setCell w a u k (fun e => hk (by rw [e]))⟩

set_option maxRecDepth 100000 in
theorem totalAdd_calls (b : Nat) (T x : Int) (w : World) (h : Tot w b T) (hx : I64 x) :
    Calls Tryz.prog 76 #[.pointer (some ⟨b, 0, none⟩), .int .i64 x] w fun e w' => e = .returned (.int .i64 0) ∧ Tot w' b (T + x) ∧ w.grownBy w' (some b) := by
  have hlt := h.lt
  obtain ⟨lo, hi, n, h1, h2, h3, h4, h5, h6, h7⟩ := h
  have HC := Lib.hid (fun W => plus_calls lo hi x T W h1 hx)
  clear h1
  go_enter Tryz.func76, Tryz.ntmps76
  go_wp2_with (go_at_call 123; refine (HC.out _).mono ?_; rintro e w1 ⟨⟨l, m, rfl, hW⟩, hb1⟩; have q0 := ((bcell hb1).1 b 0 hlt).trans h2; have q1 := ((bcell hb1).1 b 1 hlt).trans h3; have q2 := ((bcell hb1).1 b 2 hlt).trans h4; have r0 := ((bcell hb1).2 b 0 hlt).trans h5; have r1 := ((bcell hb1).2 b 1 hlt).trans h6; have r2 := ((bcell hb1).2 b 2 hlt).trans h7; have HW := Lib.hid hW; clear hW)
  have gr : w.grownBy (((w1.setCell ⟨b, 0, none⟩ (.int .u64 l)).setCell ⟨b, 1, none⟩ (.int .u64 m)).setCell ⟨b, 2, none⟩ (.int .i64 (wrap64 (n + 1)))) (some b) :=
    (((grown_b hb1 (some b)).trans (grown_set w1 ⟨b, 0, none⟩ _)).trans (grown_set _ ⟨b, 1, none⟩ _)).trans (grown_set _ ⟨b, 2, none⟩ _)
  go_ret
  refine ⟨rfl, ⟨l, m, wrap64 (n + 1), HW.out, ?_, ?_, ?_, ?_, ?_, ?_⟩, gr⟩
  all_goals simp [go_sem, q0, q1, q2, r0, r1, r2]

set_option maxRecDepth 100000 in
theorem totalSum_calls (b : Nat) (T : Int) (w : World) (h : Tot w b T) (hT : -170141183460469231731687303715884105728 ≤ T ∧ T < 170141183460469231731687303715884105728) :
    Calls Tryz.prog 77 #[.pointer (some ⟨b, 0, none⟩)] w fun e w' => e = .returned (.tuple #[.int .i64 (if fits T then T else 0), .int .i64 (if fits T then 0 else 12)]) ∧ Below w.heap.size w w' := by
  obtain ⟨lo, hi, n, h1, h2, h3, h4, h5, h6, h7⟩ := h
  obtain ⟨x, hx⟩ : ∃ x, (if fits T then T else 0) = x := ⟨_, rfl⟩
  obtain ⟨y, hy⟩ : ∃ y, (if fits T then 0 else 12 : Int) = y := ⟨_, rfl⟩
  have hC : ∀ W : World, Calls Tryz.prog 124 #[.agg #[.int .u64 lo, .int .u64 hi]] W fun e w' => e = .returned (.tuple #[.int .i64 x, .int .i64 y]) ∧ Below W.heap.size W w' := fun W => by subst hx hy; exact weight_calls lo hi T W h1 hT
  rw [hx, hy]
  have HC := Lib.hid hC
  clear hx hy hC h1
  go_enter Tryz.func77, Tryz.ntmps77
  go_wp2_with (go_at_call 124; refine (HC.out _).mono ?_; rintro e w1 ⟨rfl, hb1⟩)
  refine bodyPost_ret (results_tmp2 rfl _ _ _) rfl ⟨?_, hb1⟩
  simp
end Go.Proofs.YtlhdndnohmikeaaGreatDoor
