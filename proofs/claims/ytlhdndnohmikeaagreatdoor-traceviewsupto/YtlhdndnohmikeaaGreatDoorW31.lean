/-
  Walks: what is wrong with an entry.
-/
import Derived.Test.YtlhdndnohmikeaaGreatDoorW10
set_option linter.unusedVariables false
set_option linter.unusedSimpArgs false
namespace Go.Proofs.YtlhdndnohmikeaaGreatDoor
open Go.RowKit

def entryCheck (s : List Col) (e : Entry) : Int := if schemaCheck s ≠ 0 then schemaCheck s else if e.kind < 0 ∨ 2 ≤ e.kind then 10 else if e.seq < 0 ∨ 281474976710656 < e.seq then 3 else zsetCheck s e.pairs
set_option maxRecDepth 100000 in
set_option maxHeartbeats 1000000 in
theorem entryCheck_calls (s : List Col) (e : Entry) (vs vp : Value) (w : World) (F G : Nat → Prop) (hG : Glob w) (hs : SL colK w F vs s) (hp : SL pairK w G vp e.pairs) :
    Calls Tryz.prog 96 #[vs, .agg #[.int .i64 e.kind, .int .i64 e.seq, vp]] w fun x w' => x = .returned (.int .i64 (entryCheck s e)) ∧ Below w.heap.size w w' := by
  obtain ⟨A, c, rfl, _, _⟩ := hs.form
  obtain ⟨B, c', rfl, _, _⟩ := hp.form
  obtain ⟨kd, hkd⟩ : ∃ x, e.kind = x := ⟨_, rfl⟩
  obtain ⟨sq, hsq⟩ : ∃ x, e.seq = x := ⟨_, rfl⟩
  obtain ⟨sc, hsc⟩ : ∃ x, schemaCheck s = x := ⟨_, rfl⟩
  obtain ⟨zc, hzc⟩ : ∃ x, zsetCheck s e.pairs = x := ⟨_, rfl⟩
  have hSC : ∀ W, Below w.heap.size w W → Calls Tryz.prog 69 #[.slice A s.length c] W fun x w' => x = .returned (.int .i64 sc) ∧ Below W.heap.size W w' := fun W h => hsc ▸ schemaCheck_calls s _ W _ (hG.below h) (hs.below h)
  have hZC : ∀ W, Below w.heap.size w W → Calls Tryz.prog 83 #[.slice A s.length c, .slice B e.pairs.length c'] W fun x w' => x = .returned (.int .i64 zc) ∧ Below W.heap.size W w' := fun W h => hzc ▸ zsetCheck_calls s e.pairs _ _ W _ _ (hG.below h) (hs.below h) (hp.below h)
  have SC := Lib.hid hSC
  have ZC := Lib.hid hZC
  obtain ⟨r, hr⟩ : ∃ r, entryCheck s e = r := ⟨_, rfl⟩
  have HR : Hid (r = if sc ≠ 0 then sc else if kd < 0 ∨ 2 ≤ kd then 10 else if sq < 0 ∨ 281474976710656 < sq then 3 else zc) := by
    show _ = _
    rw [← hr, ← hsc, ← hkd, ← hsq, ← hzc]; rfl
  rw [hkd, hsq, hr]
  clear hSC hZC hkd hsq hsc hzc hr
  by_cases h0 : sc = 0
  · subst h0
    by_cases h1 : kd < 0
    · have g1 : decide (kd < 0) = true := decide_eq_true h1
      have HF := Lib.hid (show r = 10 by rw [HR.out]; simp [h1])
      clear h1
      go_enter Tryz.func96, Tryz.ntmps96
      go_wp2_with (go_at_call 69; refine (SC.out _ (bel_alloc (Below.refl _ _) _)).mono ?_; rintro x w1 ⟨rfl, hb1⟩; have q0 := ((bcell hb1).1 w.heap.size 0 (by simp)).trans (show _ = some (.int .i64 kd) by simp))
      go_ret
      exact ⟨ret_int HF.out.symm, bel_trans (bel_alloc (Below.refl _ _) _) hb1⟩
    · have g1 : decide (kd < 0) = false := decide_eq_false h1
      by_cases h2 : 2 ≤ kd
      · have g2 : decide (2 ≤ kd) = true := decide_eq_true h2
        have HF := Lib.hid (show r = 10 by rw [HR.out]; simp [h2])
        clear h1 h2
        go_enter Tryz.func96, Tryz.ntmps96
        go_wp2_with (go_at_call 69; refine (SC.out _ (bel_alloc (Below.refl _ _) _)).mono ?_; rintro x w1 ⟨rfl, hb1⟩; have q0 := ((bcell hb1).1 w.heap.size 0 (by simp)).trans (show _ = some (.int .i64 kd) by simp))
        go_ret
        exact ⟨ret_int HF.out.symm, bel_trans (bel_alloc (Below.refl _ _) _) hb1⟩
      · have g2 : decide (2 ≤ kd) = false := decide_eq_false h2
        by_cases h3 : sq < 0
        · have g3 : decide (sq < 0) = true := decide_eq_true h3
          have HF := Lib.hid (show r = 3 by rw [HR.out]; simp [h1, h2, h3])
          clear h1 h2 h3
          go_enter Tryz.func96, Tryz.ntmps96
          go_wp2_with (go_at_call 69; refine (SC.out _ (bel_alloc (Below.refl _ _) _)).mono ?_; rintro x w1 ⟨rfl, hb1⟩; have q0 := ((bcell hb1).1 w.heap.size 0 (by simp)).trans (show _ = some (.int .i64 kd) by simp); have q1 := ((bcell hb1).1 w.heap.size 1 (by simp)).trans (show _ = some (.int .i64 sq) by simp))
          go_ret
          exact ⟨ret_int HF.out.symm, bel_trans (bel_alloc (Below.refl _ _) _) hb1⟩
        · have g3 : decide (sq < 0) = false := decide_eq_false h3
          by_cases h4 : 281474976710656 < sq
          · have g4 : decide (281474976710656 < sq) = true := decide_eq_true h4
            have HF := Lib.hid (show r = 3 by rw [HR.out]; simp [h1, h2, h4])
            clear h1 h2 h3 h4
            go_enter Tryz.func96, Tryz.ntmps96
            go_wp2_with (go_at_call 69; refine (SC.out _ (bel_alloc (Below.refl _ _) _)).mono ?_; rintro x w1 ⟨rfl, hb1⟩; have q0 := ((bcell hb1).1 w.heap.size 0 (by simp)).trans (show _ = some (.int .i64 kd) by simp); have q1 := ((bcell hb1).1 w.heap.size 1 (by simp)).trans (show _ = some (.int .i64 sq) by simp))
            go_ret
            exact ⟨ret_int HF.out.symm, bel_trans (bel_alloc (Below.refl _ _) _) hb1⟩
          · have g4 : decide (281474976710656 < sq) = false := decide_eq_false h4
            have HF := Lib.hid (show r = zc by rw [HR.out]; simp [h1, h2, h3, h4])
            clear h1 h2 h3 h4
            go_enter Tryz.func96, Tryz.ntmps96
            go_wp2_with (first
              | (go_at_call 69; refine (SC.out _ (bel_alloc (Below.refl _ _) _)).mono ?_; rintro x w1 ⟨rfl, hb1⟩; have q0 := ((bcell hb1).1 w.heap.size 0 (by simp)).trans (show _ = some (.int .i64 kd) by simp); have q1 := ((bcell hb1).1 w.heap.size 1 (by simp)).trans (show _ = some (.int .i64 sq) by simp); have q2 := ((bcell hb1).1 w.heap.size 2 (by simp)).trans (show _ = some (.slice B e.pairs.length c') by simp))
              | (go_at_call 83; refine (ZC.out _ (bel_trans (bel_alloc (Below.refl _ _) _) hb1)).mono ?_; rintro x w2 ⟨rfl, hb2⟩))
            go_ret
            exact ⟨ret_int HF.out.symm, bel_trans (bel_trans (bel_alloc (Below.refl _ _) _) hb1) hb2⟩
  · have g0 : (sc != 0) = true := bne_true h0
    have HF := Lib.hid (show r = sc by rw [HR.out]; simp [h0])
    clear h0
    go_enter Tryz.func96, Tryz.ntmps96
    go_wp2_with (go_at_call 69; refine (SC.out _ (bel_alloc (Below.refl _ _) _)).mono ?_; rintro x w1 ⟨rfl, hb1⟩)
    go_ret
    exact ⟨ret_int HF.out.symm, bel_trans (bel_alloc (Below.refl _ _) _) hb1⟩
end Go.Proofs.YtlhdndnohmikeaaGreatDoor
