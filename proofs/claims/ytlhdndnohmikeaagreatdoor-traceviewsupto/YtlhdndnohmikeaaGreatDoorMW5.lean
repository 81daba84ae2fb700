/-
  Walks: what is wrong with a schema, and with a row.
  Walks: what is wrong with a row.
-/
import Derived.Test.YtlhdndnohmikeaaGreatDoorMW3
set_option linter.unusedVariables false
set_option linter.unusedSimpArgs false
namespace Go.Proofs.YtlhdndnohmikeaaGreatDoor
open Go.RowKit

set_option maxHeartbeats 400000 in
set_option maxRecDepth 100000 in
theorem names_calls (w : World) (hG : Glob w) :
    Calls Tryz.prog 153 #[] w fun e w' => (∃ A c, e = .returned (.slice A 6 c)) ∧ Below w.heap.size w w' := by
  obtain ⟨s0, h0⟩ := hG.names 0 (by omega)
  obtain ⟨s1, h1⟩ := hG.names 1 (by omega)
  obtain ⟨s2, h2⟩ := hG.names 2 (by omega)
  obtain ⟨s3, h3⟩ := hG.names 3 (by omega)
  obtain ⟨s4, h4⟩ := hG.names 4 (by omega)
  obtain ⟨s5, h5⟩ := hG.names 5 (by omega)
  have hs : SL strK w (fun _ => True) (.slice (some ⟨1, 0, none⟩) 6 6) [s0, s1, s2, s3, s4, s5] := by
    refine ⟨_, 6, [.string s0, .string s1, .string s2, .string s3, .string s4, .string s5], rfl, by simp, by unfold maxLen; omega, fun _ => ⟨_, rfl, trivial, World.block_lt_of_cell? w _ h0, fun j u hu => ?_⟩, ?_⟩
    · rcases j with _ | _ | _ | _ | _ | _ | j <;> simp at hu <;> subst hu <;> first | exact h0 | exact h1 | exact h2 | exact h3 | exact h4 | exact h5
    · exact .cons (c := [.string s0]) ⟨rfl, trivial⟩ (.cons (c := [.string s1]) ⟨rfl, trivial⟩ (.cons (c := [.string s2]) ⟨rfl, trivial⟩ (.cons (c := [.string s3]) ⟨rfl, trivial⟩ (.cons (c := [.string s4]) ⟨rfl, trivial⟩ (.cons (c := [.string s5]) ⟨rfl, trivial⟩ .nil)))))
  clear h0 h1 h2 h3 h4 h5
  go_enter Tryz.func153, Tryz.ntmps153
  go_wp2_with (go_at_call 191; refine (cloneStr_calls _ _ _ _ hs (by simp)).mono ?_; rintro e w' ⟨⟨v', rfl, hv⟩, hb⟩)
  go_ret
  obtain ⟨A, c, hA, _⟩ := hv.sl.form
  subst hA
  exact ⟨⟨A, c, rfl⟩, hb⟩

def colKindB (k : Int) : Bool := decide (0 ≤ k) && decide (k < 6)
set_option maxHeartbeats 400000 in
theorem schemaKindly_calls (k : Int) (w : World) (hG : Glob w) :
    Calls Tryz.prog 118 #[.int .i64 k] w fun e w' => e = .returned (.bool (colKindB k)) ∧ Below w.heap.size w w' := by
  by_cases h : 0 ≤ k
  · have h1 : decide (0 ≤ k) = true := decide_eq_true h
    go_enter Tryz.func118, Tryz.ntmps118
    go_wp2_with (go_at_call 153; refine (names_calls _ hG).mono ?_; rintro e w' ⟨⟨A, c, rfl⟩, hb⟩)
    go_ret
    exact ⟨ret_bool (by simp [colKindB, h]), by assumption⟩
  · have h1 : decide (0 ≤ k) = false := decide_eq_false h
    go_enter Tryz.func118, Tryz.ntmps118
    go_wp2
    go_ret
    exact ⟨ret_bool (by simp [colKindB]; omega), Below.refl _ _⟩

def colLoop : List Col → List ByteArray → Int
  | [], _ => 0
  | c :: cs, l => if 32 < (c.name.size : Int) then 7 else if (!(nameB c.name && !memB c.name l)) = true then 2 else if (!colKindB c.kind) = true then 10 else colLoop cs (c.name :: l)
def schemaCheck (s : List Col) : Int := if s.length = 0 then 4 else if 8 < s.length then 13 else colLoop s []

set_option maxHeartbeats 1000000 in
set_option maxRecDepth 100000 in
theorem schemaCheck_calls (s : List Col) (v : Value) (w : World) (F : Nat → Prop) (hG : Glob w) (hs : SL colK w F v s) :
    Calls Tryz.prog 69 #[v] w fun e w' => e = .returned (.int .i64 (schemaCheck s)) ∧ Below w.heap.size w w' := by
  have hl := hs.len_le
  unfold maxLen at hl
  obtain ⟨A, c, rfl, _, _⟩ := hs.form
  have hmm := @run_makeMap Tryz.prog
  by_cases h0 : s.length = 0
  · have hx : s = [] := List.eq_nil_of_length_eq_zero h0
    subst hx
    go_enter Tryz.func69, Tryz.ntmps69
    go_wp2
    go_ret
    exact ⟨rfl, Below.refl _ _⟩
  · have e0 : ((s.length : Int) == 0) = false := beq_false_ (by omega)
    by_cases h8 : 8 < s.length
    · have h8' : (8 : Int) < s.length := by omega
      have HF : Hid (schemaCheck s = 13) := by show _ = _; simp [schemaCheck, h0, h8]
      clear h0 hmm
      go_enter Tryz.func69, Tryz.ntmps69
      go_wp2
      go_ret
      exact ⟨ret_int HF.out.symm, Below.refl _ _⟩
    · have h8' : ¬ (8 : Int) < s.length := by omega
      have HF : Hid (schemaCheck s = colLoop s []) := by show _ = _; simp [schemaCheck, h0, h8]
      clear h0
      go_enter Tryz.func69, Tryz.ntmps69
      go_wp2
      go_loopw [17] (fun i wr => ∃ (k : Nat) (l : List ByteArray), k ≤ s.length ∧ i = .int .i64 k ∧ l.length ≤ k ∧ SeenAt wr w.heap.size l ∧ Below w.heap.size w wr ∧ Hid (colLoop s [] = colLoop (s.drop k) l)) (fun i _ => s.length - (intOf i).toNat)
      case atStart => exact ⟨0, [], by omega, rfl, by simp, SeenAt.made w, bel_alloc (Below.refl _ _) _, rfl⟩
      case round =>
        obtain ⟨k, l, hk, rfl, hll, hm, hbw, hT⟩ := hrel
        by_cases hlt : k < s.length
        · obtain ⟨ad, rfl, l1, x0, x1, _, x3⟩ := col_at (hs.below hbw) hlt
          have k0 : (k : Int) < s.length := by omega
          have hstep : Hid (colLoop s [] = if 32 < (s[k].name.size : Int) then 7 else if (!(nameB s[k].name && !memB s[k].name l)) = true then 2 else if (!colKindB s[k].kind) = true then 10 else colLoop (s.drop (k + 1)) (s[k].name :: l)) := by
            show _ = _
            rw [hT.out, List.drop_eq_getElem_cons hlt, colLoop]
          have x3' := x3
          unfold maxLen at x3'
          have hml := hm.lt
          obtain ⟨tb, htb⟩ : ∃ tb, (nameB s[k].name && !memB s[k].name l) = tb := ⟨_, rfl⟩
          obtain ⟨kb, hkb⟩ : ∃ kb, colKindB s[k].kind = kb := ⟨_, rfl⟩
          have hTK : ∀ W : World, SeenAt W w.heap.size l → Calls Tryz.prog 117 #[.map (some w.heap.size), .string s[k].name] W fun e w' => e = .returned (.bool tb) ∧ SeenAt w' w.heap.size (s[k].name :: l) ∧ W.grownBy w' (some w.heap.size) := fun W h => htb ▸ seenTake_calls w.heap.size l s[k].name W h x3 (by omega)
          have hKK : ∀ W : World, Glob W → Calls Tryz.prog 118 #[.int .i64 s[k].kind] W fun e w' => e = .returned (.bool kb) ∧ Below W.heap.size W w' := fun W h => hkb ▸ schemaKindly_calls s[k].kind W h
          rw [htb, hkb] at hstep
          have TK := Lib.hid hTK
          have KK := Lib.hid hKK
          clear htb hkb hTK hKK
          go_wp2_with (first
            | (go_at_call 117; refine (TK.out _ (hm.below ?_)).mono ?_; rotate_left 1; rintro e w2 ⟨rfl, hm2, hg2⟩; have hc2 := gcell hg2 wr.heap.size 1 (by simp) (by omega); have hb2 : Below w.heap.size w w2 := bel_grow1 (bel_alloc hbw _) hg2 (Nat.le_refl _))
            | (go_at_call 118; refine (KK.out _ (hG.below hb2)).mono ?_; rintro e w3 ⟨rfl, hb3⟩))
          · go_ret
            refine ⟨ret_int ?_, bel_alloc hbw _⟩
            rw [HF.out, hstep.out, if_pos (by assumption)]
          · go_ret
            refine ⟨ret_int ?_, hb2⟩
            rw [HF.out, hstep.out, if_neg (by omega), if_pos (by assumption)]
          · go_ret
            refine ⟨ret_int ?_, bel_trans hb2 hb3⟩
            rw [HF.out, hstep.out, if_neg (by omega), if_neg (by rw [‹(!tb) = false›]; simp), if_pos (by assumption)]
          · go_roundw
            case rel =>
              refine ⟨k + 1, s[k].name :: l, by omega, by go_num, by simp; omega, hm2.below hb3, bel_trans hb2 hb3, ?_⟩
              show _ = _
              rw [hstep.out, if_neg (by omega), if_neg (by rw [‹(!tb) = false›]; simp), if_neg (by rw [‹(!kb) = false›]; simp)]
            case measure => simp [intOf]; omega
          all_goals exact bel_alloc (Below.refl _ _) _
        · have hk' : k = s.length := by omega
          have HK := Lib.hid hk'
          clear hk'
          go_wp2
          go_ret
          refine ⟨ret_int ?_, hbw⟩
          rw [HF.out, hT.out, HK.out, List.drop_length]
          rfl
end Go.Proofs.YtlhdndnohmikeaaGreatDoor

set_option linter.unusedVariables false
set_option linter.unusedSimpArgs false
namespace Go.Proofs.YtlhdndnohmikeaaGreatDoor
open Go.RowKit

def cellsLoop : List Col → List Cell → Int
  | c :: cs, x :: xs => if cellCheck c.kind x ≠ 0 then cellCheck c.kind x else cellsLoop cs xs
  | _, _ => 0
def rowCheck (s : List Col) (r : List Cell) : Int := if schemaCheck s ≠ 0 then schemaCheck s else if r.length ≠ s.length then 2 else cellsLoop s r

set_option maxHeartbeats 1000000 in
set_option maxRecDepth 100000 in
theorem rowCheck_calls (s : List Col) (r : List Cell) (vs vr : Value) (w : World) (F G : Nat → Prop) (hG : Glob w) (hs : SL colK w F vs s) (hr : SL cellK w G vr r) :
    Calls Tryz.prog 70 #[vs, vr] w fun e w' => e = .returned (.int .i64 (rowCheck s r)) ∧ Below w.heap.size w w' := by
  have hl := hs.len_le
  have hlr := hr.len_le
  unfold maxLen at hl hlr
  obtain ⟨A, c, rfl, _, _⟩ := hs.form
  obtain ⟨B, c', rfl, _, _⟩ := hr.form
  obtain ⟨sc, hsc⟩ : ∃ sc, schemaCheck s = sc := ⟨_, rfl⟩
  have hSC : Calls Tryz.prog 69 #[.slice A s.length c] w fun e w' => e = .returned (.int .i64 sc) ∧ Below w.heap.size w w' := hsc ▸ schemaCheck_calls s _ w F hG hs
  have SC := Lib.hid hSC
  clear hSC
  by_cases h0 : sc = 0
  · by_cases hn : r.length = s.length
    · have HF : Hid (rowCheck s r = cellsLoop s r) := by show _ = _; simp [rowCheck, hsc, h0, hn]
      have HN := Lib.hid hn
      have hn2 : ((r.length : Int) != s.length) = false := bne_false (by omega)
      subst h0
      clear hn hsc
      go_enter Tryz.func70, Tryz.ntmps70
      go_wp2_with (go_at_call 69; refine SC.out.mono ?_; rintro e w1 ⟨rfl, hb1⟩)
      clear hn2
      go_loopw [21] (fun i wr => ∃ (k : Nat), k ≤ s.length ∧ i = .int .i64 k ∧ Below w.heap.size w wr ∧ Hid (cellsLoop s r = cellsLoop (s.drop k) (r.drop k))) (fun i _ => s.length - (intOf i).toNat)
      case atStart => exact ⟨0, by omega, rfl, by assumption, rfl⟩
      case round =>
        obtain ⟨k, hk, rfl, hbw, hT⟩ := hrel
        by_cases hlt : k < s.length
        · have hkr : k < r.length := by have := HN.out; omega
          obtain ⟨ad, rfl, l1, x0, x1, _, _⟩ := col_at (hs.below hbw) hlt
          obtain ⟨bd, rfl, l2, y0, y1, _, y3⟩ := cell_at (hr.below hbw) hkr
          have k0 : (k : Int) < s.length := by omega
          have k1 : (k : Int) < r.length := by omega
          have hstep : Hid (cellsLoop s r = if cellCheck s[k].kind r[k] ≠ 0 then cellCheck s[k].kind r[k] else cellsLoop (s.drop (k + 1)) (r.drop (k + 1))) := by
            show _ = _
            rw [hT.out, List.drop_eq_getElem_cons hlt, List.drop_eq_getElem_cons hkr, cellsLoop]
          obtain ⟨cc, hcc⟩ : ∃ cc, cellCheck s[k].kind r[k] = cc := ⟨_, rfl⟩
          have hCC : ∀ W : World, Glob W → Calls Tryz.prog 119 #[.int .i64 s[k].kind, .agg #[.int .u64 r[k].num, .string r[k].text]] W fun e w' => e = .returned (.int .i64 cc) ∧ Below W.heap.size W w' := fun W h => hcc ▸ cellCheck_calls s[k].kind r[k] W h y3
          rw [hcc] at hstep
          have CC := Lib.hid hCC
          clear hcc hCC
          have z0 := fun p : Later (wr.alloc (.cells #[.string s[k].name, .int .i64 s[k].kind] 87)) => later_cell (cell_al y0 _) p
          have z1 := fun p : Later (wr.alloc (.cells #[.string s[k].name, .int .i64 s[k].kind] 87)) => later_cell (cell_al y1 _) p
          have z2 := fun p : Later (wr.alloc (.cells #[.string s[k].name, .int .i64 s[k].kind] 87)) => later_cell (a := ⟨wr.heap.size, 1, none⟩) (v := .int .i64 s[k].kind) (by simp) p
          have hGw : Glob wr := hG.below hbw
          go_wp2
          refine wp_region_later mixed (by kernel_rfl) ?_
          repeat (go_big_quiet_step ((go_at_call 119; exact later_of (CC.out _ (hGw.below (bel_trans (bel_alloc (Below.refl _ _) _) (Later.below _)))))))
          refine wpQuiet_nil ?_
          intro w2 hw2
          have hb2 := later_below hw2
          clear hw2
          have hbw2 : Below w.heap.size w w2 := bel_trans (bel_alloc hbw _) hb2
          clear z0 z1 z2 y0 y1 x0 x1
          go_wp2
          · go_ret
            refine ⟨ret_int ?_, hbw2⟩
            rw [HF.out, hstep.out, if_pos (by simpa using ‹(cc != 0) = true›)]
          · go_roundw
            case rel =>
              refine ⟨k + 1, by omega, by go_num, hbw2, ?_⟩
              show _ = _
              rw [hstep.out, if_neg (by simpa using ‹(cc != 0) = false›)]
            case measure => simp [intOf]; omega
        · have hk' : k = s.length := by omega
          have HK := Lib.hid hk'
          clear hk'
          go_wp2
          go_ret
          refine ⟨ret_int ?_, hbw⟩
          rw [HF.out, hT.out, HK.out, List.drop_length, cellsLoop]
          simp
    · have HF : Hid (rowCheck s r = 2) := by show _ = _; simp [rowCheck, hsc, h0, hn]
      have hn2 : ((r.length : Int) != s.length) = true := bne_true (by omega)
      subst h0
      clear hn hsc
      go_enter Tryz.func70, Tryz.ntmps70
      go_wp2_with (go_at_call 69; refine SC.out.mono ?_; rintro e w1 ⟨rfl, hb1⟩)
      go_ret
      exact ⟨ret_int HF.out.symm, by assumption⟩
  · have HF : Hid (rowCheck s r = sc) := by show _ = _; simp [rowCheck, hsc, h0]
    have hn2 : (sc != 0) = true := bne_true h0
    clear h0 hsc
    go_enter Tryz.func70, Tryz.ntmps70
    go_wp2_with (go_at_call 69; refine SC.out.mono ?_; rintro e w1 ⟨rfl, hb1⟩)
    go_ret
    exact ⟨ret_int HF.out.symm, by assumption⟩
end Go.Proofs.YtlhdndnohmikeaaGreatDoor
