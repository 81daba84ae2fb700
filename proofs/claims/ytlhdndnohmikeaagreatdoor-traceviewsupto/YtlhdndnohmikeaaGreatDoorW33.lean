/-
  Walks: a trace's state takes an entry. (UNDER WAY)
-/
import Derived.Test.YtlhdndnohmikeaaGreatDoorW32
import Derived.Test.YtlhdndnohmikeaaGreatDoorK
set_option linter.unusedVariables false
set_option linter.unusedSimpArgs false
namespace Go.Proofs.YtlhdndnohmikeaaGreatDoor
open Go.RowKit

/-- The state in block b: schema, number, view, how many. -/
structure St (w : World) (b : Nat) (F : Nat → Prop) (s : List Col) (seq : Int) (view : List Pair) (many : Nat) : Prop where
  c0 : ∃ vs, w.cell? ⟨b, 0, none⟩ = some vs ∧ SL colK w F vs s
  c1 : w.cell? ⟨b, 1, none⟩ = some (.int .i64 seq) ∧ I64 seq
  c2 : ∃ vv, w.cell? ⟨b, 2, none⟩ = some vv ∧ SL pairK w F vv view
  c3 : w.cell? ⟨b, 3, none⟩ = some (.int .i64 many) ∧ many ≤ 4096
  fr : ∀ o, w.frozen? ⟨b, o, none⟩ = false
  out : ¬ F b
theorem room_calls (b : Nat) (n : Nat) (w : World) (h : w.cell? ⟨b, 3, none⟩ = some (.int .i64 n)) (hn : n ≤ 4096) :
    Calls Tryz.prog 115 #[.pointer (some ⟨b, 0, none⟩)] w fun e w' => e = .returned (.int .i64 (if 4096 ≤ n then 13 else 0)) ∧ w = w' := by
  by_cases h0 : 4096 ≤ n
  · have e0 : decide ((4096 : Int) ≤ (n : Int)) = true := decide_eq_true (by omega)
    have e1 : decide (4096 ≤ n) = true := decide_eq_true h0
    rw [if_pos h0]
    go_enter Tryz.func115, Tryz.ntmps115
    go_wp2
    go_ret
    exact ⟨rfl, rfl⟩
  · have e0 : decide ((4096 : Int) ≤ (n : Int)) = false := decide_eq_false (by omega)
    have e1 : decide (4096 ≤ n) = false := decide_eq_false h0
    rw [if_neg h0]
    go_enter Tryz.func115, Tryz.ntmps115
    go_wp2
    go_ret
    exact ⟨rfl, rfl⟩
theorem Kept.out {F : Nat → Prop} {w w' : World} {b : Nat} (hg : w.grownBy w' (some b)) (h : ¬ F b) : Kept F w w' := Kept.of_grown hg fun k hk => by injection hk with hk; subst hk; exact h
theorem applied_i64 {s : List Col} {seq n : Int} {view out : List Pair} {e : Entry} (h : Applied s seq view e n out 0) : 0 ≤ n ∧ n ≤ 281474976710657 := by
  rcases h with ⟨_, _, _, h⟩ | ⟨_, _, _, _, h⟩ | ⟨_, _, _, _, _, h⟩ | ⟨_, hs, _, h⟩
  · omega
  · omega
  · omega
  · rcases h with ⟨_, _, _, h⟩ | ⟨_, _, _, _, _, h⟩ | ⟨_, _, _, h, _, _⟩ | ⟨_, _, sum, bad, _, h⟩
    · omega
    · omega
    · omega
    · rcases h with ⟨h, _, _, h2⟩ | ⟨_, h, _, _⟩
      · omega
      · omega
/-- What taking an entry leaves. -/
def TakePost (b : Nat) (F : Nat → Prop) (s : List Col) (seq : Int) (view : List Pair) (many : Nat) (e : Entry) (w : World) (x : Ending) (w' : World) : Prop :=
  (if 4096 ≤ many then x = .returned (.int .i64 13) ∧ Below w.heap.size w w'
   else ∃ n out ec, x = .returned (.int .i64 ec) ∧ Applied s seq view e n out ec ∧ (if ec = 0 then St w' b (fun k => F k ∨ w.heap.size ≤ k) s n out (many + 1) ∧ w.grownBy w' (some b) else Below w.heap.size w w'))
set_option maxRecDepth 100000 in
set_option maxHeartbeats 2000000 in
theorem take_calls (b : Nat) (F G : Nat → Prop) (s : List Col) (seq : Int) (view : List Pair) (many : Nat) (e : Entry) (vp : Value) (w : World) (hG : Glob w) (hst : St w b F s seq view many) (hp : SL pairK w G vp e.pairs) :
    Calls Tryz.prog 66 #[.pointer (some ⟨b, 0, none⟩), .agg #[.int .i64 e.kind, .int .i64 e.seq, vp]] w (TakePost b F s seq view many e w) := by
  obtain ⟨⟨vs, a0, hs⟩, ⟨a1, hsq⟩, ⟨vv, a2, hv⟩, ⟨a3, hm⟩, hfr, hout⟩ := hst
  obtain ⟨B, cb, rfl, _, _⟩ := hp.form
  obtain ⟨A, c, rfl, _, _⟩ := hs.form
  obtain ⟨D, cd, rfl, _, _⟩ := hv.form
  have hbl := World.block_lt_of_cell? w _ a0
  have hb0 : Below w.heap.size w (w.alloc (.cells #[.int .i64 e.kind, .int .i64 e.seq, .slice B e.pairs.length cb] 58)) := bel_alloc (Below.refl _ _) _
  have y0 := cell_al a0 (.cells #[.int .i64 e.kind, .int .i64 e.seq, .slice B e.pairs.length cb] 58)
  have y1 := cell_al a1 (.cells #[.int .i64 e.kind, .int .i64 e.seq, .slice B e.pairs.length cb] 58)
  have y2 := cell_al a2 (.cells #[.int .i64 e.kind, .int .i64 e.seq, .slice B e.pairs.length cb] 58)
  have y3 := cell_al a3 (.cells #[.int .i64 e.kind, .int .i64 e.seq, .slice B e.pairs.length cb] 58)
  have RM := Lib.hid (room_calls b many _ y3 hm)
  by_cases h0 : 4096 ≤ many
  · rw [if_pos h0] at RM
    have H0 := Lib.hid h0
    clear h0
    go_enter Tryz.func66, Tryz.ntmps66
    go_wp2_with (go_at_call 115; refine RM.out.mono ?_; rintro x w1 ⟨rfl, rfl⟩)
    go_ret
    unfold TakePost
    rw [if_pos H0.out]
    exact ⟨rfl, hb0⟩
  · have hm2 : many < 4096 := by omega
    rw [if_neg h0] at RM
    have H0 := Lib.hid h0
    clear h0
    have AP := Lib.hid (fun W (h : Below w.heap.size w W) => entryApply_calls s seq view e _ _ _ W _ _ _ (hG.below h) hsq (hs.below h) (hv.below h) (hp.below h))
    go_enter Tryz.func66, Tryz.ntmps66
    go_wp2_with (go_at_call 115; refine RM.out.mono ?_; rintro x w1 ⟨rfl, rfl⟩)
    go_region_held3 (fun w' => w'.cell? ⟨b, 0, none⟩ = some (.slice A s.length c) ∧ w'.cell? ⟨b, 1, none⟩ = some (.int .i64 seq) ∧ w'.cell? ⟨b, 2, none⟩ = some (.slice D view.length cd) ∧ w'.cell? ⟨w.heap.size, 0, none⟩ = some (.int .i64 e.kind) ∧ w'.cell? ⟨w.heap.size, 1, none⟩ = some (.int .i64 e.seq) ∧ w'.cell? ⟨w.heap.size, 2, none⟩ = some (.slice B e.pairs.length cb))
      (first
        | exact ⟨cell_al a0 _, cell_al a1 _, cell_al a2 _, by simp, by simp, by simp⟩
        | (go_split_ands; exact ⟨cell_by hb2 (by assumption), cell_by hb2 (by assumption), cell_by hb2 (by assumption), cell_by hb2 (by assumption), cell_by hb2 (by assumption), cell_by hb2 (by assumption)⟩))
      (first | (go_at_call 105; refine (AP.out _ (bel_drew hb0)).mono ?_; rintro x w2 ⟨⟨vo, n, out, ec, rfl, hso, hap⟩, hb2⟩; obtain ⟨vA, vc, rfl, _, _⟩ := hso.form))
    have z0 := cell_by hb2 (cell_al a0 (.cells #[.int .i64 e.kind, .int .i64 e.seq, .slice B e.pairs.length cb] 58))
    have hwb : Below w.heap.size w w2 := bel_trans (bel_drew hb0) hb2
    have c1' := cell_by hwb a1
    have c2' := cell_by hwb a2
    have c3' := cell_by hwb a3
    have f1 := fun o => froz_by hwb hbl (hfr o)
    by_cases he : ec = 0
    · subst he
      have HAP := Lib.hid hap
      have hin := applied_i64 hap
      clear hap
      have hm3 : (many : Int) + 1 ≤ 4096 := by omega
      go_wp2
      go_ret
      unfold TakePost
      rw [if_neg H0.out]
      refine ⟨n, out, 0, rfl, HAP.out, ?_⟩
      rw [if_pos rfl]
      have hF : ¬ (F b ∨ w.heap.size ≤ b) := fun h => h.elim hout fun h => by omega
      refine ⟨⟨⟨_, ?_, (((((hs.below hwb).wid fun k hk _ => .inl hk).set _ hF).set _ hF).set _ hF)⟩, ⟨?_, ?_⟩, ⟨_, ?_, (((hso.wid fun k hk _ => ?_).set _ hF).set _ hF).set _ hF⟩, ⟨?_, by omega⟩, fun o => ?_, hF⟩, ?_⟩
      · have h0 := cell_by hwb a0
        have h1 := cell_set_off (o' := 0) (u := .int .i64 n) (o := 1) h0 (by omega)
        have h2 := cell_set_off (u := .slice vA out.length vc) (o := 2) h1 (by omega)
        exact cell_set_off h2 (by omega)
      · have h1 := cell_set_on (u := .int .i64 n) c1'
        have h2 := cell_set_off (u := .slice vA out.length vc) (o := 2) h1 (by omega)
        exact cell_set_off h2 (by omega)
      · have := hin; constructor <;> omega
      · have h1 := cell_set_off (u := .int .i64 n) (o := 1) c2' (by omega)
        have h2 := cell_set_on (u := .slice vA out.length vc) h1
        exact cell_set_off h2 (by omega)
      · rcases hk with h | h
        · exact .inl h
        · exact .inr (by have := hb0.size; simp at h; omega)
      · have h1 := cell_set_off (u := .int .i64 n) (o := 1) c3' (by omega)
        have h2 := cell_set_off (u := .slice vA out.length vc) (o := 2) h1 (by omega)
        exact cell_set_on h2
      · simp only [World.frozen?_setCell]; exact f1 o
      · exact gset _ (gset _ (gset _ (gbel hwb b)))
    · have ne : (ec == 0) = false := beq_false_ he
      have HE := Lib.hid he
      clear he
      go_wp2
      go_ret
      unfold TakePost
      rw [if_neg H0.out]
      refine ⟨n, out, ec, rfl, hap, ?_⟩
      rw [if_neg HE.out]
      exact hwb
end Go.Proofs.YtlhdndnohmikeaaGreatDoor
