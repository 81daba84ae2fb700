/-
  Walks: row.Compare.
-/
import Derived.Test.YtlhdndnohmikeaaGreatDoorW8
import Derived.RangeFuncFrom
import Derived.RangeFuncKeeps
set_option linter.unusedVariables false
set_option linter.unusedSimpArgs false
namespace Go.Proofs.YtlhdndnohmikeaaGreatDoor
open Go.RowKit Go.Shelf
attribute [local go_sem] Oper.semAt_some

def rowCompare (s : List Col) (a b : List Cell) : Int := if rowCheck s a ≠ 0 ∨ rowCheck s b ≠ 0 then 0 else orOf (ordersOf s a b)
theorem orOf_zero : ∀ l : List Int, (∀ y ∈ l, y = 0) → orOf l = 0
  | [], _ => rfl
  | x :: xs, h => by
    have hx : x = 0 := h x (by simp)
    simp only [orOf, hx, ne_eq, not_true_eq_false, if_false]
    exact orOf_zero xs fun y hy => h y (by simp [hy])
theorem orOf_prefix : ∀ (p : List Int) (x : Int) (r : List Int), (∀ y ∈ p, y = 0) → x ≠ 0 → orOf (p ++ x :: r) = x
  | [], x, r, _, hx => by simp [orOf, hx]
  | y :: p, x, r, h, hx => by
    have hy : y = 0 := h y (by simp)
    simp only [List.cons_append, orOf, hy, ne_eq, not_true_eq_false, if_false]
    exact orOf_prefix p x r (fun z hz => h z (by simp [hz])) hx

theorem orders_stops (n : Nat) (hn : 3 ≤ n) (B0 B1 B2 : Nat) (F : Nat → Prop) (s : List Col) (a b : List Cell) (vs va vb : Value) (hla : a.length = s.length) (hlb : b.length = s.length) (w0 : World) (hG : ∀ W, Held F w0 W → Glob W) (hf0 : F B0) (hf1 : F B1) (hf2 : F B2)
    (h0 : w0.cell? ⟨B0, 0, none⟩ = some vs) (h1 : w0.cell? ⟨B1, 0, none⟩ = some va) (h2 : w0.cell? ⟨B2, 0, none⟩ = some vb)
    (hs : SL colK w0 F vs s) (ha : SL cellK w0 F va a) (hb : SL cellK w0 F vb b) :
    SeqStopsK Fence.wide n Tryz.prog 159 #[.pointer (some ⟨B0, 0, none⟩), .pointer (some ⟨B1, 0, none⟩), .pointer (some ⟨B2, 0, none⟩)] (fun x : Int => #[Value.int .i64 x]) (Held F) (fun ys => ys = ordersOf s a b) (fun pre => ∃ k, pre = (ordersOf s a b).take k) s.length w0 := fun l J Jx W hW hJ _ hY hj =>
  orders1_in n hn l B0 B1 B2 F s a b vs va vb J Jx hla hlb hY W hJ (hG W (Held.of_below hW)) (fun W' h' => hG W' ((Held.of_below hW).trans h')) hf0 hf1 hf2
    ((hW.cell (World.block_lt_of_cell? w0 _ h0)).trans h0) ((hW.cell (World.block_lt_of_cell? w0 _ h1)).trans h1) ((hW.cell (World.block_lt_of_cell? w0 _ h2)).trans h2) (hs.below hW) (ha.below hW) (hb.below hW) hj

theorem Glob.held {w w3 W : World} {F : Nat → Prop} (h : Glob w) (hb : Below w.heap.size w w3) (hh : Held F w3 W) (hF : ∀ k, k < w.heap.size → F k) : Glob W :=
  have g : Glob { W with os := w.os, tape := w.tape, output := w.output } := h.below ⟨rfl, rfl, rfl, Nat.le_trans hb.size hh.1, fun k hk => (hh.2 k (hF k hk) (Nat.lt_of_lt_of_le hk hb.size)).trans (hb.block k hk)⟩
  ⟨g.names, g.frames0, g.frames1, g.tabs⟩
theorem cell_alloc_l {W : World} {a : Addr} {v : Value} (o : Obj) (h : W.cell? a = some v) : (W.alloc o).cell? a = some v := cell_kept h (World.grownBy_alloc W o none) (fun r e => by cases e)
theorem frozen_alloc_l {W : World} {a : Addr} {v : Value} (o : Obj) (h : W.cell? a = some v) (hf : W.frozen? a = false) : (W.alloc o).frozen? a = false := (frozen_kept h (World.grownBy_alloc W o none) (fun r e => by cases e)).trans hf
theorem cell0_keep {w W W' : World} {v : Value} (h : W.cell? ⟨w.heap.size, 0, none⟩ = some v ∧ W.frozen? ⟨w.heap.size, 0, none⟩ = false) (hs : w.heap.size < W.heap.size) (hb : Below W.heap.size W W') : (W'.cell? ⟨w.heap.size, 0, none⟩ = some v ∧ W'.frozen? ⟨w.heap.size, 0, none⟩ = false) ∧ w.heap.size < W'.heap.size :=
  ⟨⟨((bcell hb).1 _ _ hs).trans h.1, ((bcell hb).2 _ _ hs).trans h.2⟩, Nat.lt_of_lt_of_le hs hb.size⟩
set_option maxRecDepth 100000 in
set_option maxHeartbeats 2000000 in
theorem rowCompare_calls (s : List Col) (a b : List Cell) (vs va vb : Value) (w : World) (F G H : Nat → Prop) (hG : Glob w) (hs : SL colK w F vs s) (ha : SL cellK w G va a) (hb : SL cellK w H vb b) :
    Calls Tryz.prog 74 #[vs, va, vb] w fun e w' => e = .returned (.int .i64 (rowCompare s a b)) ∧ Below w.heap.size w w' := by
  obtain ⟨A, c, rfl, _, _⟩ := hs.form
  obtain ⟨B, c', rfl, _, _⟩ := ha.form
  obtain ⟨C, c'', rfl, _, _⟩ := hb.form
  obtain ⟨ca, hca⟩ : ∃ x, rowCheck s a = x := ⟨_, rfl⟩
  obtain ⟨cb, hcb⟩ : ∃ x, rowCheck s b = x := ⟨_, rfl⟩
  have hCA : ∀ W : World, Below w.heap.size w W → Calls Tryz.prog 70 #[.slice A s.length c, .slice B a.length c'] W fun e w' => e = .returned (.int .i64 ca) ∧ Below W.heap.size W w' := fun W h => hca ▸ rowCheck_calls s a _ _ W _ _ (hG.below h) (hs.below h) (ha.below h)
  have hCB : ∀ W : World, Below w.heap.size w W → Calls Tryz.prog 70 #[.slice A s.length c, .slice C b.length c''] W fun e w' => e = .returned (.int .i64 cb) ∧ Below W.heap.size W w' := fun W h => hcb ▸ rowCheck_calls s b _ _ W _ _ (hG.below h) (hs.below h) (hb.below h)
  have CA := Lib.hid hCA
  have CB := Lib.hid hCB
  clear hCA hCB
  have c0 := cell_new_l w (.int .i64 0) 3
  by_cases h0 : ca = 0
  · have e0 : (ca != 0) = false := bne_false h0
    by_cases h1 : cb = 0
    · have e1 : (cb != 0) = false := bne_false h1
      have HF : Hid (rowCompare s a b = orOf (ordersOf s a b)) := by show _ = _; simp [rowCompare, hca, hcb, h0, h1]
      have hla : a.length = s.length := by
        exact Decidable.byContradiction fun hh => by have hh1 := hca.trans h0; unfold rowCheck at hh1; split at hh1 <;> omega
      have hlb : b.length = s.length := by
        exact Decidable.byContradiction fun hh => by have hh1 := hcb.trans h1; unfold rowCheck at hh1; split at hh1 <;> omega
      have HLA := Lib.hid hla
      have HLB := Lib.hid hlb
      clear h0 h1 hca hcb hla hlb
      refine (callsIn_wide (n := 5)).1 ?_
      refine callsIn_of_wp_marks Tryz.func74 rfl trivial ?_ rfl
      simp only [Tryz.ntmps74, List.size_toArray, List.length_cons, List.length_nil, Nat.reduceAdd, Nat.reduceSub, Array.replicate_succ, Array.replicate_zero, List.push_toArray, List.append_toArray, List.nil_append, List.cons_append]
      gi_wp2_with (first
        | (refine ⟨trivial, ?_⟩; gi_at_call 70; refine (callsIn_wide.2 (CB.out _ hbel1)).mono ?_; rintro e w2 ⟨rfl, hb2⟩; have k2 := cell0_keep k1.1 k1.2 hb2; have hbel2 := bel_trans hbel1 hb2)
        | (refine ⟨trivial, ?_⟩; gi_at_call 70; refine (callsIn_wide.2 (CA.out _ (bel_alloc (Below.refl _ _) _))).mono ?_; rintro e w1 ⟨rfl, hb1⟩; have k1 := cell0_keep c0 (by simp) hb1; have hbel1 := bel_trans (bel_alloc (Below.refl _ _) _) hb1)
        | (refine ⟨trivial, ?_⟩; gi_at_call 121; have hoc := (callsIn_wide (n := 4)).2 (orders_calls A B C s.length a.length b.length c c' c'' w2); refine hoc.mono ?_; clear hoc; rintro e w3 ⟨rfl, hw3⟩))
      obtain ⟨⟨d0, d1⟩, d2⟩ := k2
      have e0 := cell_new_l w2 (.slice A s.length c) 22
      have e1 := cell_new_l (w2.alloc (.cells #[.slice A s.length c] 22)) (.slice B a.length c') 92
      have e2 := cell_new_l ((w2.alloc (.cells #[.slice A s.length c] 22)).alloc (.cells #[.slice B a.length c'] 92)) (.slice C b.length c'') 92
      simp only [World.size_alloc] at e1 e2
      have hb3 : Below w2.heap.size w2 (((w2.alloc (.cells #[.slice A s.length c] 22)).alloc (.cells #[.slice B a.length c'] 92)).alloc (.cells #[.slice C b.length c''] 92)) := (((Below.refl _ w2).alloc (Nat.le_refl _) _).alloc (by simp) _).alloc (by simp; omega) _
      have hB0 : Below w.heap.size w (((w2.alloc (.cells #[.slice A s.length c] 22)).alloc (.cells #[.slice B a.length c'] 92)).alloc (.cells #[.slice C b.length c''] 92)) := hbel2.trans (hb3.mono (by omega))
      have g0 := cell_alloc_l (.cells #[.slice C b.length c''] 92) (cell_alloc_l (.cells #[.slice B a.length c'] 92) e0.1)
      have g1 := cell_alloc_l (.cells #[.slice C b.length c''] 92) e1.1
      have gc : (((w2.alloc (.cells #[.slice A s.length c] 22)).alloc (.cells #[.slice B a.length c'] 92)).alloc (.cells #[.slice C b.length c''] 92)).cell? ⟨w.heap.size, 0, none⟩ = some (.int .i64 0) := ((bcell hb3).1 w.heap.size 0 d2).trans d0
      have gf := ((bcell hb3).2 w.heap.size 0 d2).trans d1
      have gsz : w2.heap.size + 1 + 1 + 1 = (((w2.alloc (.cells #[.slice A s.length c] 22)).alloc (.cells #[.slice B a.length c'] 92)).alloc (.cells #[.slice C b.length c''] 92)).heap.size := by simp
      obtain ⟨w3, hw3⟩ : ∃ w3, (((w2.alloc (.cells #[.slice A s.length c] 22)).alloc (.cells #[.slice B a.length c'] 92)).alloc (.cells #[.slice C b.length c''] 92)) = w3 := ⟨_, rfl⟩
      rw [hw3] at hB0 g0 g1 e2 gc gf hb3 gsz ⊢
      let FF : Nat → Prop := fun k => k < w3.heap.size ∧ k ≠ w.heap.size
      have slFF : ∀ {α : Type} {d : Kind α} {v : Value} {xs : List α} {F : Nat → Prop}, SL d w F v xs → SL d w3 FF v xs := fun h => (h.since hB0).wid fun k hk _ => ⟨Nat.lt_of_lt_of_le hk.2 hB0.size, by omega⟩
      have i1 : 1 ≤ 5 := by omega
      have i3 : 3 ≤ 4 := by omega
      refine wpIn_rangeFunc_ownF rfl i1 (gf := 159) (lb := #[.pointer (some ⟨w2.heap.size, 0, none⟩), .pointer (some ⟨w2.heap.size + 1, 0, none⟩), .pointer (some ⟨w2.heap.size + 1 + 1, 0, none⟩)]) rfl trivial (enters_of Tryz.func159 (by kernel_rfl) rfl)
        (orders_stops 4 i3 w2.heap.size (w2.heap.size + 1) (w2.heap.size + 1 + 1) FF s a b _ _ _ HLA.out HLB.out w3 (fun W h => hG.held hB0 h fun k hk => ⟨by omega, by omega⟩) ⟨by omega, by omega⟩ ⟨by omega, by omega⟩ ⟨by omega, by omega⟩ g0 g1 e2.1 (slFF hs) (slFF ha) (slFF hb)) Held.trans (fun W l o o' hl _ _ _ => Held.put _ _ fun h => by have := h.1; omega) (Below.refl _ _) (fun _ => rfl)
        (fun pre W => ((∀ y ∈ pre, y = 0) ∧ W.cell? ⟨w.heap.size, 0, none⟩ = some (.int .i64 0) ∧ W.frozen? ⟨w.heap.size, 0, none⟩ = false) ∧ Below w.heap.size w W)
        (fun c pre W => (c = .ret ∧ (∃ p x, pre = p ++ [x] ∧ (∀ y ∈ p, y = 0) ∧ x ≠ 0 ∧ W.cell? ⟨w.heap.size, 0, none⟩ = some (.int .i64 x))) ∧ Below w.heap.size w W)
        (OwnFrom.and (Own.from (fun s A B row hs hg hr => ⟨hs.1, cell_kept hs.2.1 hg hr, (frozen_kept hs.2.1 hg hr).trans hs.2.2⟩) _) (ownFrom_below (Nat.le_refl _) (by omega)))
        (fun c => OwnFrom.and (Own.from (fun s A B row hs hg hr => by
          obtain ⟨h1, p, x, h2, h3, h4, h5⟩ := hs
          exact ⟨h1, p, x, h2, h3, h4, cell_kept h5 hg hr⟩) _) (ownFrom_below (Nat.le_refl _) (by omega)))
        ⟨⟨by simp, gc, gf⟩, hB0⟩ (fun x => { tmps := #[Value.slice A s.length c, Value.slice B a.length c', Value.slice C b.length c'', undef, undef, undef, Value.pointer (some { block := w.heap.size, off := 0 }), .int .i64 x, Value.slice A s.length c, Value.slice B a.length c', Value.int IntKind.i64 ca, Value.bool false, Value.bool false, Value.slice A s.length c, Value.slice C b.length c'', Value.int IntKind.i64 cb, Value.bool false, Value.bool false, Value.slice A s.length c, Value.slice B a.length c', Value.slice C b.length c'', Value.func (Fn.func 159) #[] #[Value.pointer (some { block := w2.heap.size, off := 0 }), Value.pointer (some { block := w2.heap.size + 1, off := 0 }), Value.pointer (some { block := w2.heap.size + 1 + 1, off := 0 })], .int .i64 x, undef, undef, undef], defers := [] }) ?assign ?body ?done ?stop
      case assign =>
        intro l x W K hK
        gi_wp2
        exact hK
      case body =>
        rintro l pre x W ⟨⟨hp, hcr, hfr⟩, hB⟩ _
        gi_wp2
        · rename_i hx
          have hx' : x ≠ 0 := by simpa using hx
          exact ⟨KeepsOthers.setCell _ _ _, ⟨rfl, pre, x, rfl, hp, hx', World.cell?_setCell_same' _ _ _ (by rw [hcr]; rfl)⟩, hB.setCell (p := ⟨w.heap.size, 0, none⟩) (Nat.le_refl _) _⟩
        · rename_i hx
          have hx' : x = 0 := by simpa using hx
          exact ⟨KeepsOthers.refl _, Held.refl _ _, ⟨fun y hy => (List.mem_append.1 hy).elim (hp y) (fun e => by simp at e; omega), hcr, hfr⟩, hB⟩
      case done =>
        rintro D ys W hD rfl ⟨⟨hp, hcr, hfr⟩, hB⟩ hK
        gi_wp2
        have hK' := (KeepsOthers.setCell W ⟨w.heap.size, 0, none⟩ (.int .i64 0)).same D _ hK rfl
        refine ⟨by simp, .inl ⟨_, _, rfl, run_takeDeferred hK', ?_⟩⟩
        have hc5 := cell_kept (World.cell?_setCell_same' W ⟨w.heap.size, 0, none⟩ (.int .i64 0) (by rw [hcr]; rfl)) (grownBy_putObj' _ D (.deferred none)) (fun r e => by cases e; exact ⟨_, hK', rfl⟩)
        refine ⟨.int .i64 0, ?_, by rw [HF.out, orOf_zero _ hp], (hB.setCell (p := ⟨w.heap.size, 0, none⟩) (Nat.le_refl _) _).trans (belowK_b (w := w) (Nat.le_refl _) _ D _ _ (by omega) hK' rfl rfl)⟩
        simp [results, Tryz.f74, go_sem, hc5]
      case stop =>
        rintro D c pre W hD ⟨k, hk⟩ ⟨⟨rfl, p, x, hpre, hp, hx, hcr⟩, hB⟩ hK
        gi_wp2
        refine ⟨by simp, .inl ⟨_, _, rfl, run_takeDeferred hK, ?_⟩⟩
        have hc5 := cell_kept hcr (grownBy_putObj' _ D (.deferred none)) (fun r e => by cases e; exact ⟨_, hK, rfl⟩)
        have hor : orOf (ordersOf s a b) = x := by
          rw [← List.take_append_drop k (ordersOf s a b), ← hk, hpre, List.append_assoc]
          exact orOf_prefix p x _ hp hx
        refine ⟨.int .i64 x, ?_, by rw [HF.out, hor], hB.trans (belowK_b (w := w) (Nat.le_refl _) W D _ _ (by omega) hK rfl rfl)⟩
        simp [results, Tryz.f74, go_sem, hc5]
    · have e1 : (cb != 0) = true := bne_true h1
      have HF : Hid (rowCompare s a b = 0) := by show _ = _; simp [rowCompare, hca, hcb, h0, h1]
      clear h0 h1 hca hcb
      go_enter Tryz.func74, Tryz.ntmps74
      go_wp2_with (first
        | (go_at_call_of 70 (Value.slice B a.length c'); refine (CA.out _ (bel_alloc (Below.refl _ _) _)).mono ?_; rintro e w1 ⟨rfl, hb1⟩; have k1 := cell0_keep c0 (by simp) hb1; have hbel1 := bel_trans (bel_alloc (Below.refl _ _) _) hb1)
        | (go_at_call_of 70 (Value.slice C b.length c''); refine (CB.out _ hbel1).mono ?_; rintro e w2 ⟨rfl, hb2⟩; have k2 := cell0_keep k1.1 k1.2 hb2; obtain ⟨⟨q0, q1⟩, q2⟩ := k2; have hbel2 := bel_trans hbel1 hb2))
      refine bodyPost_ret (v := .int .i64 0) ?_ rfl ⟨by rw [HF.out], hbel2.setCell (p := ⟨w.heap.size, 0, none⟩) (Nat.le_refl _) _⟩
      simp [results, Tryz.f74, go_sem, World.cell?_setCell_same', q0]
  · have e0 : (ca != 0) = true := bne_true h0
    have HF : Hid (rowCompare s a b = 0) := by show _ = _; simp [rowCompare, hca, h0]
    clear h0 hca hcb
    go_enter Tryz.func74, Tryz.ntmps74
    go_wp2_with (first
      | (go_at_call_of 70 (Value.slice B a.length c'); refine (CA.out _ (bel_alloc (Below.refl _ _) _)).mono ?_; rintro e w1 ⟨rfl, hb1⟩; have k1 := cell0_keep c0 (by simp) hb1; obtain ⟨⟨q0, q1⟩, q2⟩ := k1; have hbel1 := bel_trans (bel_alloc (Below.refl _ _) _) hb1))
    refine bodyPost_ret (v := .int .i64 0) ?_ rfl ⟨by rw [HF.out], hbel1.setCell (p := ⟨w.heap.size, 0, none⟩) (Nat.le_refl _) _⟩
    simp [results, Tryz.f74, go_sem, World.cell?_setCell_same', q0]
end Go.Proofs.YtlhdndnohmikeaaGreatDoor
