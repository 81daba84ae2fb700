/-
  Walks: an entry, applied to a view.
-/
import Derived.Test.YtlhdndnohmikeaaGreatDoorW31
import Derived.Test.YtlhdndnohmikeaaGreatDoorMW24
import Derived.Test.YtlhdndnohmikeaaGreatDoorW1
set_option linter.unusedVariables false
set_option linter.unusedSimpArgs false
namespace Go.Proofs.YtlhdndnohmikeaaGreatDoor
open Go.RowKit

/-- What an entry does to a view. -/
def Applied (s : List Col) (seq : Int) (view : List Pair) (e : Entry) (n : Int) (out : List Pair) (ec : Int) : Prop :=
  (zsetCheck s view ≠ 0 ∧ n = 0 ∧ out = [] ∧ ec = zsetCheck s view) ∨
  (zsetCheck s view = 0 ∧ (seq < 0 ∨ 281474976710656 < seq) ∧ n = 0 ∧ out = [] ∧ ec = 3) ∨
  (zsetCheck s view = 0 ∧ ¬ (seq < 0 ∨ 281474976710656 < seq) ∧ entryCheck s e ≠ 0 ∧ n = 0 ∧ out = [] ∧ ec = entryCheck s e) ∨
  (zsetCheck s view = 0 ∧ ¬ (seq < 0 ∨ 281474976710656 < seq) ∧ entryCheck s e = 0 ∧
    ((e.seq ≠ (if e.kind = 1 then seq else seq + 1) ∧ n = 0 ∧ out = [] ∧ ec = 14) ∨
     (e.kind = 1 ∧ e.seq = seq ∧ view ≠ e.pairs ∧ n = 0 ∧ out = [] ∧ ec = 15) ∨
     (e.kind = 1 ∧ e.seq = seq ∧ view = e.pairs ∧ n = seq ∧ out = view ∧ ec = 0) ∨
     (e.kind ≠ 1 ∧ e.seq = seq + 1 ∧ ∃ sum bad, Summed s view e.pairs sum bad ∧ ((bad ≠ 0 ∧ n = 0 ∧ out = [] ∧ ec = bad) ∨ (bad = 0 ∧ n = seq + 1 ∧ out = sum ∧ ec = 0)))))
def ApplyPost (s : List Col) (seq : Int) (view : List Pair) (e : Entry) (H : Nat → Prop) (w : World) (x : Ending) (w' : World) : Prop :=
  (∃ vo n out ec, x = .returned (.tuple #[.int .i64 n, vo, .int .i64 ec]) ∧ SL pairK w' (fun k => H k ∨ w.heap.size ≤ k) vo out ∧ Applied s seq view e n out ec) ∧ Below w.heap.size w w'
set_option maxRecDepth 100000 in
set_option maxHeartbeats 2000000 in
theorem entryApply_calls (s : List Col) (seq : Int) (view : List Pair) (e : Entry) (vs vv vp : Value) (w : World) (F G H : Nat → Prop) (hG : Glob w) (hsq : I64 seq) (hs : SL colK w F vs s) (hv : SL pairK w H vv view) (hp : SL pairK w G vp e.pairs) :
    Calls Tryz.prog 105 #[vs, .int .i64 seq, vv, .agg #[.int .i64 e.kind, .int .i64 e.seq, vp]] w (ApplyPost s seq view e H w) := by
  obtain ⟨A, c, rfl, _, _⟩ := hs.form
  obtain ⟨B, cb, rfl, _, _⟩ := hp.form
  obtain ⟨D, cd, rfl, _, _⟩ := hv.form
  obtain ⟨sq0, sq1⟩ := hsq
  obtain ⟨zc, hzc⟩ : ∃ x, zsetCheck s view = x := ⟨_, rfl⟩
  obtain ⟨ec, hec⟩ : ∃ x, entryCheck s e = x := ⟨_, rfl⟩
  have hb0 : Below w.heap.size w (w.alloc (.cells #[.int .i64 e.kind, .int .i64 e.seq, .slice B e.pairs.length cb] 58)) := bel_alloc (Below.refl _ _) _
  have ZC := Lib.hid (show ∀ W, Below w.heap.size w W → Calls Tryz.prog 83 #[.slice A s.length c, .slice D view.length cd] W fun x w' => x = .returned (.int .i64 zc) ∧ Below W.heap.size W w' from fun W h => hzc ▸ zsetCheck_calls s view _ _ W _ _ (hG.below h) (hs.below h) (hv.below h))
  have EC := Lib.hid (show ∀ W, Below w.heap.size w W → Calls Tryz.prog 96 #[.slice A s.length c, .agg #[.int .i64 e.kind, .int .i64 e.seq, .slice B e.pairs.length cb]] W fun x w' => x = .returned (.int .i64 ec) ∧ Below W.heap.size W w' from fun W h => hec ▸ entryCheck_calls s e _ _ W _ _ (hG.below h) (hs.below h) (hp.below h))
  have SA := Lib.hid (fun W (h : Below w.heap.size w W) => zsetSame_calls view e.pairs _ _ W _ _ (hv.below h) (hp.below h))
  have SU := Lib.hid (fun W (h : Below w.heap.size w W) => zsetSum_calls s view e.pairs _ _ _ W _ _ _ (hG.below h) (hs.below h) (hv.below h) (hp.below h))
  have HE := Lib.hid (And.intro hzc hec)
  have HV := Lib.hid hv
  obtain ⟨kd, hkd⟩ : ∃ x, e.kind = x := ⟨_, rfl⟩
  obtain ⟨es, hes⟩ : ∃ x, e.seq = x := ⟨_, rfl⟩
  have HK := Lib.hid (And.intro hkd hes)
  rw [hkd, hes] at EC hb0 ⊢
  obtain ⟨sm, hsm⟩ : ∃ x, decide (view = e.pairs) = x := ⟨_, rfl⟩
  rw [hsm] at SA
  have HSM := Lib.hid hsm
  clear hkd hes hsm hzc hec
  by_cases hz : zc = 0
  · have ez : (zc != 0) = false := bne_false hz
    have HZ := Lib.hid hz
    clear hz
    by_cases ha : seq < 0 ∨ 281474976710656 < seq
    · have HA := Lib.hid ha
      have PF : Hid (Applied s seq view e 0 [] 3) := .inr (.inl ⟨HE.out.1.trans HZ.out, HA.out, rfl, rfl, rfl⟩)
      rcases ha with ha | ha
      · have ea : decide (seq < 0) = true := decide_eq_true ha
        clear ha
        go_enter Tryz.func105, Tryz.ntmps105
        go_wp2_with (first
      | (go_at_call 83; refine (ZC.out _ hb0).mono ?_; rintro x w1 ⟨rfl, hb1⟩; have q0 := ((bcell hb1).1 w.heap.size 0 (by simp)).trans (show _ = some (.int .i64 kd) by simp); have q1 := ((bcell hb1).1 w.heap.size 1 (by simp)).trans (show _ = some (.int .i64 es) by simp); have q2 := ((bcell hb1).1 w.heap.size 2 (by simp)).trans (show _ = some (.slice B e.pairs.length cb) by simp); have hw1 := bel_trans hb0 hb1; have hs1 : w.heap.size < w1.heap.size := World.block_lt_of_cell? w1 _ q0)
      | (go_at_call 96; refine (EC.out _ hw1).mono ?_; rintro x w2 ⟨rfl, hb2⟩; have r0 := ((bcell hb2).1 w.heap.size 0 hs1).trans q0; have r1 := ((bcell hb2).1 w.heap.size 1 hs1).trans q1; have r2 := ((bcell hb2).1 w.heap.size 2 hs1).trans q2; have hw2 := bel_trans hw1 hb2)
      | (go_at_call 32; refine (SA.out _ hw2).mono ?_; rintro x w3 ⟨rfl, hb3⟩; have hw3 := bel_trans hw2 hb3)
      | (go_at_call 36; refine (SU.out _ hw2).mono ?_; rintro x w4 ⟨⟨vo, sum, bad, rfl, hso, hsu⟩, hb4⟩; have hw4 := bel_trans hw2 hb4))
        refine bodyPost_ret (results_tmp3 rfl _ _ _) rfl ⟨⟨.slice none 0 0, 0, [], 3, by simp, SL.nil _ _ _, PF.out⟩, hw1⟩
      · have ea : decide (seq < 0) = false := decide_eq_false (by omega)
        have eb : decide (281474976710656 < seq) = true := decide_eq_true ha
        clear ha
        go_enter Tryz.func105, Tryz.ntmps105
        go_wp2_with (first
      | (go_at_call 83; refine (ZC.out _ hb0).mono ?_; rintro x w1 ⟨rfl, hb1⟩; have q0 := ((bcell hb1).1 w.heap.size 0 (by simp)).trans (show _ = some (.int .i64 kd) by simp); have q1 := ((bcell hb1).1 w.heap.size 1 (by simp)).trans (show _ = some (.int .i64 es) by simp); have q2 := ((bcell hb1).1 w.heap.size 2 (by simp)).trans (show _ = some (.slice B e.pairs.length cb) by simp); have hw1 := bel_trans hb0 hb1; have hs1 : w.heap.size < w1.heap.size := World.block_lt_of_cell? w1 _ q0)
      | (go_at_call 96; refine (EC.out _ hw1).mono ?_; rintro x w2 ⟨rfl, hb2⟩; have r0 := ((bcell hb2).1 w.heap.size 0 hs1).trans q0; have r1 := ((bcell hb2).1 w.heap.size 1 hs1).trans q1; have r2 := ((bcell hb2).1 w.heap.size 2 hs1).trans q2; have hw2 := bel_trans hw1 hb2)
      | (go_at_call 32; refine (SA.out _ hw2).mono ?_; rintro x w3 ⟨rfl, hb3⟩; have hw3 := bel_trans hw2 hb3)
      | (go_at_call 36; refine (SU.out _ hw2).mono ?_; rintro x w4 ⟨⟨vo, sum, bad, rfl, hso, hsu⟩, hb4⟩; have hw4 := bel_trans hw2 hb4))
        refine bodyPost_ret (results_tmp3 rfl _ _ _) rfl ⟨⟨.slice none 0 0, 0, [], 3, by simp, SL.nil _ _ _, PF.out⟩, hw1⟩
    · have ea : decide (seq < 0) = false := decide_eq_false (fun h => ha (.inl h))
      have eb : decide (281474976710656 < seq) = false := decide_eq_false (fun h => ha (.inr h))
      have HA := Lib.hid ha
      have hsb : seq ≤ 281474976710656 := by omega
      have hsb0 : 0 ≤ seq := by omega
      clear ha
      by_cases he : ec = 0
      · have ee : (ec != 0) = false := bne_false he
        have HEC := Lib.hid he
        clear he
        have PRE := Lib.hid (show ∀ n out x, ((e.seq ≠ (if e.kind = 1 then seq else seq + 1) ∧ n = 0 ∧ out = [] ∧ x = 14) ∨ (e.kind = 1 ∧ e.seq = seq ∧ view ≠ e.pairs ∧ n = 0 ∧ out = [] ∧ x = 15) ∨ (e.kind = 1 ∧ e.seq = seq ∧ view = e.pairs ∧ n = seq ∧ out = view ∧ x = 0) ∨ (e.kind ≠ 1 ∧ e.seq = seq + 1 ∧ ∃ sum bad, Summed s view e.pairs sum bad ∧ ((bad ≠ 0 ∧ n = 0 ∧ out = [] ∧ x = bad) ∨ (bad = 0 ∧ n = seq + 1 ∧ out = sum ∧ x = 0)))) → Applied s seq view e n out x from fun n out x h => .inr (.inr (.inr ⟨HE.out.1.trans HZ.out, HA.out, HE.out.2.trans HEC.out, h⟩)))
        by_cases hk : kd = 1
        · have ek : (kd == 1) = true := beq_true_ hk
          have HK1 := Lib.hid hk
          clear hk
          by_cases hq : es = seq
          · have eq1 : (es != seq) = false := bne_false hq
            have HQ := Lib.hid hq
            clear hq
            cases sm
            · have PF := Lib.hid (PRE.out 0 [] 15 (.inr (.inl ⟨HK.out.1.trans HK1.out, HK.out.2.trans HQ.out, of_decide_eq_false HSM.out, rfl, rfl, rfl⟩)))
              go_enter Tryz.func105, Tryz.ntmps105
              go_wp2_with (first
      | (go_at_call 83; refine (ZC.out _ hb0).mono ?_; rintro x w1 ⟨rfl, hb1⟩; have q0 := ((bcell hb1).1 w.heap.size 0 (by simp)).trans (show _ = some (.int .i64 kd) by simp); have q1 := ((bcell hb1).1 w.heap.size 1 (by simp)).trans (show _ = some (.int .i64 es) by simp); have q2 := ((bcell hb1).1 w.heap.size 2 (by simp)).trans (show _ = some (.slice B e.pairs.length cb) by simp); have hw1 := bel_trans hb0 hb1; have hs1 : w.heap.size < w1.heap.size := World.block_lt_of_cell? w1 _ q0)
      | (go_at_call 96; refine (EC.out _ hw1).mono ?_; rintro x w2 ⟨rfl, hb2⟩; have r0 := ((bcell hb2).1 w.heap.size 0 hs1).trans q0; have r1 := ((bcell hb2).1 w.heap.size 1 hs1).trans q1; have r2 := ((bcell hb2).1 w.heap.size 2 hs1).trans q2; have hw2 := bel_trans hw1 hb2)
      | (go_at_call 32; refine (SA.out _ hw2).mono ?_; rintro x w3 ⟨rfl, hb3⟩; have hw3 := bel_trans hw2 hb3)
      | (go_at_call 36; refine (SU.out _ hw2).mono ?_; rintro x w4 ⟨⟨vo, sum, bad, rfl, hso, hsu⟩, hb4⟩; have hw4 := bel_trans hw2 hb4))
              refine bodyPost_ret (results_tmp3 rfl _ _ _) rfl ⟨⟨.slice none 0 0, 0, [], 15, by simp, SL.nil _ _ _, PF.out⟩, hw3⟩
            · have PF := Lib.hid (PRE.out seq view 0 (.inr (.inr (.inl ⟨HK.out.1.trans HK1.out, HK.out.2.trans HQ.out, of_decide_eq_true HSM.out, rfl, rfl, rfl⟩))))
              go_enter Tryz.func105, Tryz.ntmps105
              go_wp2_with (first
      | (go_at_call 83; refine (ZC.out _ hb0).mono ?_; rintro x w1 ⟨rfl, hb1⟩; have q0 := ((bcell hb1).1 w.heap.size 0 (by simp)).trans (show _ = some (.int .i64 kd) by simp); have q1 := ((bcell hb1).1 w.heap.size 1 (by simp)).trans (show _ = some (.int .i64 es) by simp); have q2 := ((bcell hb1).1 w.heap.size 2 (by simp)).trans (show _ = some (.slice B e.pairs.length cb) by simp); have hw1 := bel_trans hb0 hb1; have hs1 : w.heap.size < w1.heap.size := World.block_lt_of_cell? w1 _ q0)
      | (go_at_call 96; refine (EC.out _ hw1).mono ?_; rintro x w2 ⟨rfl, hb2⟩; have r0 := ((bcell hb2).1 w.heap.size 0 hs1).trans q0; have r1 := ((bcell hb2).1 w.heap.size 1 hs1).trans q1; have r2 := ((bcell hb2).1 w.heap.size 2 hs1).trans q2; have hw2 := bel_trans hw1 hb2)
      | (go_at_call 32; refine (SA.out _ hw2).mono ?_; rintro x w3 ⟨rfl, hb3⟩; have hw3 := bel_trans hw2 hb3)
      | (go_at_call 36; refine (SU.out _ hw2).mono ?_; rintro x w4 ⟨⟨vo, sum, bad, rfl, hso, hsu⟩, hb4⟩; have hw4 := bel_trans hw2 hb4))
              refine bodyPost_ret (results_tmp3 rfl _ _ _) rfl ⟨⟨.slice D view.length cd, seq, view, 0, by simp, (HV.out.below hw3).wid (fun k hk _ => .inl hk), PF.out⟩, hw3⟩
          · have eq1 : (es != seq) = true := bne_true hq
            have HQ := Lib.hid hq
            clear hq
            have PF := Lib.hid (PRE.out 0 [] 14 (.inl ⟨by rw [HK.out.1, HK1.out, HK.out.2]; simpa using HQ.out, rfl, rfl, rfl⟩))
            go_enter Tryz.func105, Tryz.ntmps105
            go_wp2_with (first
      | (go_at_call 83; refine (ZC.out _ hb0).mono ?_; rintro x w1 ⟨rfl, hb1⟩; have q0 := ((bcell hb1).1 w.heap.size 0 (by simp)).trans (show _ = some (.int .i64 kd) by simp); have q1 := ((bcell hb1).1 w.heap.size 1 (by simp)).trans (show _ = some (.int .i64 es) by simp); have q2 := ((bcell hb1).1 w.heap.size 2 (by simp)).trans (show _ = some (.slice B e.pairs.length cb) by simp); have hw1 := bel_trans hb0 hb1; have hs1 : w.heap.size < w1.heap.size := World.block_lt_of_cell? w1 _ q0)
      | (go_at_call 96; refine (EC.out _ hw1).mono ?_; rintro x w2 ⟨rfl, hb2⟩; have r0 := ((bcell hb2).1 w.heap.size 0 hs1).trans q0; have r1 := ((bcell hb2).1 w.heap.size 1 hs1).trans q1; have r2 := ((bcell hb2).1 w.heap.size 2 hs1).trans q2; have hw2 := bel_trans hw1 hb2)
      | (go_at_call 32; refine (SA.out _ hw2).mono ?_; rintro x w3 ⟨rfl, hb3⟩; have hw3 := bel_trans hw2 hb3)
      | (go_at_call 36; refine (SU.out _ hw2).mono ?_; rintro x w4 ⟨⟨vo, sum, bad, rfl, hso, hsu⟩, hb4⟩; have hw4 := bel_trans hw2 hb4))
            refine bodyPost_ret (results_tmp3 rfl _ _ _) rfl ⟨⟨.slice none 0 0, 0, [], 14, by simp, SL.nil _ _ _, PF.out⟩, hw2⟩
        · have ek : (kd == 1) = false := beq_false_ hk
          have HK1 := Lib.hid hk
          clear hk
          by_cases hq : es = seq + 1
          · have eq1 : (es != seq + 1) = false := bne_false hq
            have HQ := Lib.hid hq
            clear hq
            go_enter Tryz.func105, Tryz.ntmps105
            go_wp2_with (first
      | (go_at_call 83; refine (ZC.out _ hb0).mono ?_; rintro x w1 ⟨rfl, hb1⟩; have q0 := ((bcell hb1).1 w.heap.size 0 (by simp)).trans (show _ = some (.int .i64 kd) by simp); have q1 := ((bcell hb1).1 w.heap.size 1 (by simp)).trans (show _ = some (.int .i64 es) by simp); have q2 := ((bcell hb1).1 w.heap.size 2 (by simp)).trans (show _ = some (.slice B e.pairs.length cb) by simp); have hw1 := bel_trans hb0 hb1; have hs1 : w.heap.size < w1.heap.size := World.block_lt_of_cell? w1 _ q0)
      | (go_at_call 96; refine (EC.out _ hw1).mono ?_; rintro x w2 ⟨rfl, hb2⟩; have r0 := ((bcell hb2).1 w.heap.size 0 hs1).trans q0; have r1 := ((bcell hb2).1 w.heap.size 1 hs1).trans q1; have r2 := ((bcell hb2).1 w.heap.size 2 hs1).trans q2; have hw2 := bel_trans hw1 hb2)
      | (go_at_call 32; refine (SA.out _ hw2).mono ?_; rintro x w3 ⟨rfl, hb3⟩; have hw3 := bel_trans hw2 hb3)
      | (go_at_call 36; refine (SU.out _ hw2).mono ?_; rintro x w4 ⟨⟨vo, sum, bad, rfl, hso, hsu⟩, hb4⟩; have hw4 := bel_trans hw2 hb4))
            · refine bodyPost_ret (results_tmp3 rfl _ _ _) rfl ⟨⟨.slice none 0 0, 0, [], bad, by simp, SL.nil _ _ _, PRE.out _ _ _ (.inr (.inr (.inr ⟨by rw [HK.out.1]; exact HK1.out, HK.out.2.trans HQ.out, sum, bad, hsu, .inl ⟨by simpa using ‹(bad != 0) = true›, rfl, rfl, rfl⟩⟩)))⟩, hw4⟩
            · refine bodyPost_ret (results_tmp3 rfl _ _ _) rfl ⟨⟨vo, seq + 1, sum, 0, by simp, hso.wid (fun k hk _ => .inr (by have := hw2.size; omega)), PRE.out _ _ _ (.inr (.inr (.inr ⟨by rw [HK.out.1]; exact HK1.out, HK.out.2.trans HQ.out, sum, bad, hsu, .inr ⟨by simpa using ‹(bad != 0) = false›, rfl, rfl, rfl⟩⟩)))⟩, hw4⟩
          · have eq1 : (es != seq + 1) = true := bne_true hq
            have HQ := Lib.hid hq
            clear hq
            have PF := Lib.hid (PRE.out 0 [] 14 (.inl ⟨by rw [HK.out.1, HK.out.2, if_neg HK1.out]; exact HQ.out, rfl, rfl, rfl⟩))
            go_enter Tryz.func105, Tryz.ntmps105
            go_wp2_with (first
      | (go_at_call 83; refine (ZC.out _ hb0).mono ?_; rintro x w1 ⟨rfl, hb1⟩; have q0 := ((bcell hb1).1 w.heap.size 0 (by simp)).trans (show _ = some (.int .i64 kd) by simp); have q1 := ((bcell hb1).1 w.heap.size 1 (by simp)).trans (show _ = some (.int .i64 es) by simp); have q2 := ((bcell hb1).1 w.heap.size 2 (by simp)).trans (show _ = some (.slice B e.pairs.length cb) by simp); have hw1 := bel_trans hb0 hb1; have hs1 : w.heap.size < w1.heap.size := World.block_lt_of_cell? w1 _ q0)
      | (go_at_call 96; refine (EC.out _ hw1).mono ?_; rintro x w2 ⟨rfl, hb2⟩; have r0 := ((bcell hb2).1 w.heap.size 0 hs1).trans q0; have r1 := ((bcell hb2).1 w.heap.size 1 hs1).trans q1; have r2 := ((bcell hb2).1 w.heap.size 2 hs1).trans q2; have hw2 := bel_trans hw1 hb2)
      | (go_at_call 32; refine (SA.out _ hw2).mono ?_; rintro x w3 ⟨rfl, hb3⟩; have hw3 := bel_trans hw2 hb3)
      | (go_at_call 36; refine (SU.out _ hw2).mono ?_; rintro x w4 ⟨⟨vo, sum, bad, rfl, hso, hsu⟩, hb4⟩; have hw4 := bel_trans hw2 hb4))
            refine bodyPost_ret (results_tmp3 rfl _ _ _) rfl ⟨⟨.slice none 0 0, 0, [], 14, by simp, SL.nil _ _ _, PF.out⟩, hw2⟩
      · have ee : (ec != 0) = true := bne_true he
        have HEC := Lib.hid he
        clear he
        have PF : Hid (Applied s seq view e 0 [] ec) := .inr (.inr (.inl ⟨HE.out.1.trans HZ.out, HA.out, by rw [HE.out.2]; exact HEC.out, rfl, rfl, HE.out.2.symm⟩))
        go_enter Tryz.func105, Tryz.ntmps105
        go_wp2_with (first
      | (go_at_call 83; refine (ZC.out _ hb0).mono ?_; rintro x w1 ⟨rfl, hb1⟩; have q0 := ((bcell hb1).1 w.heap.size 0 (by simp)).trans (show _ = some (.int .i64 kd) by simp); have q1 := ((bcell hb1).1 w.heap.size 1 (by simp)).trans (show _ = some (.int .i64 es) by simp); have q2 := ((bcell hb1).1 w.heap.size 2 (by simp)).trans (show _ = some (.slice B e.pairs.length cb) by simp); have hw1 := bel_trans hb0 hb1; have hs1 : w.heap.size < w1.heap.size := World.block_lt_of_cell? w1 _ q0)
      | (go_at_call 96; refine (EC.out _ hw1).mono ?_; rintro x w2 ⟨rfl, hb2⟩; have r0 := ((bcell hb2).1 w.heap.size 0 hs1).trans q0; have r1 := ((bcell hb2).1 w.heap.size 1 hs1).trans q1; have r2 := ((bcell hb2).1 w.heap.size 2 hs1).trans q2; have hw2 := bel_trans hw1 hb2)
      | (go_at_call 32; refine (SA.out _ hw2).mono ?_; rintro x w3 ⟨rfl, hb3⟩; have hw3 := bel_trans hw2 hb3)
      | (go_at_call 36; refine (SU.out _ hw2).mono ?_; rintro x w4 ⟨⟨vo, sum, bad, rfl, hso, hsu⟩, hb4⟩; have hw4 := bel_trans hw2 hb4))
        refine bodyPost_ret (results_tmp3 rfl _ _ _) rfl ⟨⟨.slice none 0 0, 0, [], ec, by simp, SL.nil _ _ _, PF.out⟩, hw2⟩
  · have ez : (zc != 0) = true := bne_true hz
    have PF : Hid (Applied s seq view e 0 [] zc) := .inl ⟨by rw [HE.out.1]; exact hz, rfl, rfl, HE.out.1.symm⟩
    clear hz
    go_enter Tryz.func105, Tryz.ntmps105
    go_wp2_with (first
      | (go_at_call 83; refine (ZC.out _ hb0).mono ?_; rintro x w1 ⟨rfl, hb1⟩; have q0 := ((bcell hb1).1 w.heap.size 0 (by simp)).trans (show _ = some (.int .i64 kd) by simp); have q1 := ((bcell hb1).1 w.heap.size 1 (by simp)).trans (show _ = some (.int .i64 es) by simp); have q2 := ((bcell hb1).1 w.heap.size 2 (by simp)).trans (show _ = some (.slice B e.pairs.length cb) by simp); have hw1 := bel_trans hb0 hb1; have hs1 : w.heap.size < w1.heap.size := World.block_lt_of_cell? w1 _ q0)
      | (go_at_call 96; refine (EC.out _ hw1).mono ?_; rintro x w2 ⟨rfl, hb2⟩; have r0 := ((bcell hb2).1 w.heap.size 0 hs1).trans q0; have r1 := ((bcell hb2).1 w.heap.size 1 hs1).trans q1; have r2 := ((bcell hb2).1 w.heap.size 2 hs1).trans q2; have hw2 := bel_trans hw1 hb2)
      | (go_at_call 32; refine (SA.out _ hw2).mono ?_; rintro x w3 ⟨rfl, hb3⟩; have hw3 := bel_trans hw2 hb3)
      | (go_at_call 36; refine (SU.out _ hw2).mono ?_; rintro x w4 ⟨⟨vo, sum, bad, rfl, hso, hsu⟩, hb4⟩; have hw4 := bel_trans hw2 hb4))
    refine bodyPost_ret (results_tmp3 rfl _ _ _) rfl ⟨⟨.slice none 0 0, 0, [], zc, by simp, SL.nil _ _ _, PF.out⟩, hw1⟩
end Go.Proofs.YtlhdndnohmikeaaGreatDoor
