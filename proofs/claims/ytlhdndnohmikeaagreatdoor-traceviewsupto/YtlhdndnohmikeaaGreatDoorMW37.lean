/-
  Walks: sets, column by column, written.
  Walks: a set's bytes.
  Walks: an entry's frame, written.
-/
import Derived.Test.YtlhdndnohmikeaaGreatDoorW36
import Derived.Test.YtlhdndnohmikeaaGreatDoorW10
import Derived.Test.YtlhdndnohmikeaaGreatDoorW30
import Derived.Deep.RegionLaw
import Derived.Test.YtlhdndnohmikeaaGreatDoorW31
set_option linter.unusedVariables false
set_option linter.unusedSimpArgs false
namespace Go.Proofs.YtlhdndnohmikeaaGreatDoor
open Go.RowKit

/-- A variable in block B that holds a row of bytes. -/
structure Bx (w : World) (B base : Nat) (acc : List UInt8) : Prop where
  ex : ∃ v, w.cell? ⟨B, 0, none⟩ = some v ∧ Own byteK 5 w base (fun _ => False) v acc ∧ v.ownBlock ≠ some B
  fr : w.frozen? ⟨B, 0, none⟩ = false
  lo : base ≤ B
theorem Bx.lt {w : World} {B base : Nat} {acc : List UInt8} (h : Bx w B base acc) : B < w.heap.size := by
  obtain ⟨v, h1, _⟩ := h.ex
  exact World.block_lt_of_cell? w _ h1
theorem Bx.by {w w' : World} {B base : Nat} {acc : List UInt8} (h : Bx w B base acc) (hb : Below w.heap.size w w') : Bx w' B base acc := by
  have hl := h.lt
  obtain ⟨⟨v, h1, h2, h3⟩, h4, h5⟩ := h
  exact ⟨⟨v, cell_by hb h1, h2.below hb, h3⟩, froz_by hb hl h4, h5⟩
theorem Bx.new {w : World} {base A0 n c : Nat} {A : Option Addr} {acc : List UInt8} (h : Own byteK 5 w A0 (fun _ => False) (.slice A n c) acc) (hb : base ≤ A0) (hw : base ≤ w.heap.size) : Bx (w.alloc (.cells #[.slice A n c] 36)) w.heap.size base acc := by
  have hc := cell_new_l w (.slice A n c) 36
  exact ⟨⟨_, hc.1, (h.al _).lower hb, fun e => by have := (h.lt _ e).2; omega⟩, hc.2, hw⟩
/-- What is appended to it. -/
theorem Bx.put {w w5 : World} {B base : Nat} {xs : List UInt8} {v v5 : Value} (hB : B < w.heap.size) (hf : w.frozen? ⟨B, 0, none⟩ = false) (hc : w.cell? ⟨B, 0, none⟩ = some v) (hlo : base ≤ B) (hne : v.ownBlock ≠ some B) (hl : ∀ k, v.ownBlock = some k → base ≤ k)
    (hA : Appended byteK 5 base (fun _ => False) w v xs v5 w5) : Bx (w5.setCell ⟨B, 0, none⟩ v5) B base xs ∧ w5.frozen? ⟨B, 0, none⟩ = false ∧ ∃ u, w5.cell? ⟨B, 0, none⟩ = some u := by
  obtain ⟨h1, h2, h3⟩ := hA
  have hn5 : v5.ownBlock ≠ some B := by
    rcases h3 with h | h
    · rw [h]; exact hne
    · rw [h]; intro e; injection e with e; omega
  have hc5 := cell_grown h2 hne hc
  have hf5 : w5.frozen? ⟨B, 0, none⟩ = false := (World.frozen?_of_block (h2.block B hB (fun e => hne e.symm))).trans hf
  refine ⟨⟨⟨v5, cell_set_on hc5, ?_, hn5⟩, by rw [World.frozen?_setCell]; exact hf5, hlo⟩, hf5, _, hc5⟩
  exact h1.keep (row := some B) (gset _ (gbel (Below.refl _ _) B)) fun k hk => by injection hk with hk; subst hk; exact ⟨hn5, fun h => h⟩

set_option maxRecDepth 100000 in
set_option maxHeartbeats 2000000 in
theorem batchWrite1_calls (k : Int) (l : List Cell) (vl : Value) (acc : List UInt8) (B base : Nat) (w : World) (F : Nat → Prop) (hG : Glob w) (h0 : 0 ≤ k) (h6 : k < 6) (hl : SL cellK w F vl l) (hn : l.length ≤ 65536) (hok : ColOK k l) (hbx : Bx w B base acc) (hbs : base ≤ w.heap.size) (hac : acc.length ≤ 1099511627776) (hcb : (columnBytes k l).length ≤ 1099511627776) :
    Calls Tryz.prog 142 #[.int .i64 k, vl, .pointer (some ⟨B, 0, none⟩)] w fun e w' => e = .returned (.tuple #[]) ∧ Bx w' B base (acc ++ columnBytes k l) ∧ Below base w w' := by
  have CW := Lib.hid (columnWrite_calls k l vl w F hG h0 h6 hl hn hok)
  obtain ⟨A, c, rfl, _, _⟩ := hl.form
  generalize columnBytes k l = cb at *
  go_enter Tryz.func142, Tryz.ntmps142
  go_wp2_with (first
    | (go_at_call 143; refine CW.out.mono ?_; rintro e w1 ⟨⟨v1, rfl, ho1⟩, hb1⟩; have hx1 := hbx.by hb1; obtain ⟨⟨vo, y1, y2, y3⟩, y4, y5⟩ := hx1; obtain ⟨A1, c1, rfl, _, _⟩ := ho1.sl.form; have hs1 := ho1.sl; have hz1 := hb1.size; have hlt1 := World.block_lt_of_cell? w1 _ y1)
    | (at_builtin; refine wpList_append_sl byteK elemByte rfl _ _ 36 rfl Tryz.underlying36 rfl y2 rfl hs1 flatF flatF ?_ ?_ ?_ ?_; (unfold maxLen; omega); omega; omega; rintro v5 w5 hA5; obtain ⟨A5, c5, rfl, _, _⟩ := hA5.1.sl.form; obtain ⟨hp1, hp2, u, hp3⟩ := Bx.put hlt1 y4 y1 y5 y3 (fun k hk => (y2.lt k hk).1) hA5; rw [List.length_append] at hp1))
  go_end0
  have hb5 := (lo_trans (Below.refl base w) hb1 hbs).grown hA5.2.1 (by omega) (fun k hk => (y2.lt k hk).1)
  exact ⟨rfl, hp1, hb5.setCell y5 _⟩
def zeroCell : Cell := ⟨0, emptyS⟩
def cellOf (p : Pair) (k : Nat) : Cell := p.row.getD k zeroCell
/-- Column k of rows. -/
def colOf (a : List Pair) (k : Nat) : List Cell := a.map fun p => cellOf p k
def kindOf (s : List Col) (k : Nat) : Int := match s[k]? with | some c => c.kind | none => 0
def colsUpto (s : List Col) (a : List Pair) (k : Nat) : List UInt8 := (List.range k).flatMap fun j => columnBytes (kindOf s j) (colOf a j)
theorem colsUpto_snoc (s : List Col) (a : List Pair) (k : Nat) : colsUpto s a (k + 1) = colsUpto s a k ++ columnBytes (kindOf s k) (colOf a k) := by
  simp [colsUpto, List.range_succ, List.flatMap_append]
theorem makeCells (n : Nat) (w : World) (hn : n ≤ 65536) : ∃ w', (Instr.makeSlice 92 (.int .i64 (n : Int)) (.int .i64 (n : Int))).run Tryz.prog w = .ok (.slice (some ⟨w.heap.size, 0, none⟩) n n) w' ∧ Own cellK 90 w' w.heap.size (fun _ => False) (.slice (some ⟨w.heap.size, 0, none⟩) n n) (List.replicate n zeroCell) ∧ Below w.heap.size w w' :=
  makeOf cellK infoCell Tryz.underlying92 rfl (fun _ _ => ⟨rfl, by unfold U64; exact ⟨by decide, by decide⟩, by decide⟩) n w (by show n * 2 ≤ _; omega) (by omega) (by unfold maxLen; omega)
/-- The cells laid so far. -/
def laidC (a : List Pair) (j n k : Nat) : List Cell := (colOf a j).take k ++ List.replicate (n - k) zeroCell
theorem laidC_set (a : List Pair) (j k : Nat) (hk : k < a.length) : (laidC a j a.length k).set k (cellOf a[k] j) = laidC a j a.length (k + 1) := by
  unfold laidC
  have hl : (colOf a j).length = a.length := by simp [colOf]
  rw [List.set_append_right _ _ (by simp [hl]; omega)]
  rw [List.length_take, hl, show k - min k a.length = 0 by omega, show a.length - k = (a.length - (k + 1)) + 1 by omega, List.replicate_succ, List.set_cons_zero, List.take_succ_eq_append_getElem (by rw [hl]; exact hk)]
  simp [colOf]
theorem laidC_len (a : List Pair) (j k : Nat) (hk : k ≤ a.length) : (laidC a j a.length k).length = a.length := by
  simp [laidC, colOf]; omega
set_option maxRecDepth 100000 in
set_option maxHeartbeats 4000000 in
theorem each_calls (s : List Col) (a : List Pair) (vs va : Value) (acc : List UInt8) (B base : Nat) (w : World) (F G : Nat → Prop) (hG : ∀ W, Below base w W → Glob W) (hs : SL colK w F vs s) (ha : SL pairK w G va a) (hF : ∀ k, F k → k < base) (hGa : ∀ k, G k → k < base)
    (hk6 : ∀ c ∈ s, 0 ≤ c.kind ∧ c.kind < 6) (hrow : ∀ p ∈ a, p.row.length = s.length) (hcol : ∀ j, j < s.length → ColOK (kindOf s j) (colOf a j)) (hn : a.length ≤ 1024)
    (hbx : Bx w B base acc) (hbs : base ≤ w.heap.size) (hlen : ∀ k, k ≤ s.length → (acc ++ colsUpto s a k).length ≤ 549755813888) :
    Calls Tryz.prog 141 #[vs, va, .func (.func 142) #[] #[.pointer (some ⟨B, 0, none⟩)]] w fun e w' => e = .returned (.tuple #[]) ∧ Bx w' B base (acc ++ colsUpto s a s.length) ∧ Below base w w' := by
  have hl := hs.len_le
  unfold maxLen at hl
  obtain ⟨A, c, rfl, _, _⟩ := hs.form
  obtain ⟨A', c', rfl, _, _⟩ := ha.form
  have HK6 := Lib.hid hk6
  have HR := Lib.hid hrow
  have HC := Lib.hid hcol
  have HL := Lib.hid hlen
  clear hk6 hrow hcol hlen
  have W1 := Lib.hid (fun k l vl acc W F => batchWrite1_calls k l vl acc B base W F)
  go_enter Tryz.func141, Tryz.ntmps141
  go_wp2
  go_loopw [13] (fun vi wr => ∃ k : Nat, k ≤ s.length ∧ vi = .int .i64 k ∧ Bx wr B base (acc ++ colsUpto s a k) ∧ Below base w wr) (fun vi _ => s.length - (intOf vi).toNat)
  case atStart => exact ⟨0, by omega, by simp, by simpa [colsUpto] using hbx, Below.refl _ _⟩
  case round =>
    obtain ⟨k, hk, rfl, hB, hbr⟩ := hrel
    rename World => wo
    by_cases hlt : k < s.length
    · obtain ⟨ad, rfl, l1, x0, x1, x2, x3⟩ := col_at (hs.lo hbr hF) hlt
      have k0 : (k : Int) < s.length := by omega
      have hz := hbr.size
      have hBl := hB.lt
      obtain ⟨wm, hm1, hm2, hm3⟩ := makeCells a.length (wo.alloc (.cells #[.string s[k].name, .int .i64 s[k].kind] 87)) (by omega)
      have hkd : kindOf s k = s[k].kind := by unfold kindOf; rw [List.getElem?_eq_getElem hlt]
      have hkk := HK6.out s[k] (List.getElem_mem hlt)
      obtain ⟨kd, hkde⟩ : ∃ x, s[k].kind = x := ⟨_, rfl⟩
      rw [hkde] at hkd hkk x1 x2 hm1
      simp only [hkde] at hm2 hm3
      have HKD := Lib.hid hkd
      generalize s[k].name = cn at *
      clear hkd hkde
      have hm2' : Own cellK 90 wm (wo.heap.size + 1) (fun _ => False) (.slice (some ⟨wo.heap.size + 1, 0, none⟩) a.length a.length) (laidC a k a.length 0) := by simpa [laidC] using hm2
      have hm3' : Below (wo.heap.size + 1) (wo.alloc (.cells #[.string cn, .int .i64 kd] 87)) wm := by simpa using hm3
      clear hm2 hm3
      go_wp2
      go_loopw [9, 23] (fun vq vi wr => ∃ i : Nat, i ≤ a.length ∧ vi = .int .i64 i ∧ Own cellK 90 wr (wo.heap.size + 1) (fun _ => False) (.slice (some ⟨wo.heap.size + 1, 0, none⟩) a.length a.length) (laidC a k a.length i) ∧ Below (wo.heap.size + 1) (wo.alloc (.cells #[.string cn, .int .i64 kd] 87)) wr) (fun _ vi _ => a.length - (intOf vi).toNat)
      case atStart => exact ⟨0, by omega, by simp, hm2', hm3'⟩
      case round =>
        obtain ⟨i, hi, rfl, hO, hbi⟩ := hrel
        have hbw : Below base w wr := (bel_lo hbr hbs).trans (hbi.mono (by omega))
        by_cases hlti : i < a.length
        · obtain ⟨ad2, r, rfl, l2, y0, y1, y2, y3⟩ := pair_at (ha.lo hbw hGa) hlti
          have k0'' : k < a[i].row.length := by have := HR.out a[i] (List.getElem_mem hlti); omega
          obtain ⟨rA, rc, rfl, _, _⟩ := y2.form
          obtain ⟨ad3, rfl, l3, z0, z1, z2, z3⟩ := cell_at y2 k0''
          have hcell : cellOf a[i] k = a[i].row[k] := by unfold cellOf; rw [List.getD_eq_getElem?_getD, List.getElem?_eq_getElem k0'']; rfl
          have hset := laidC_set a k i hlti
          rw [hcell] at hset
          have i0 : (i : Int) < a.length := by omega
          have k0' : (k : Int) < a[i].row.length := by omega
          clear hcell
          generalize a[i].row[k] = x at *
          obtain ⟨xn, xt⟩ := x
          simp only at z0 z1 z2 z3
          obtain ⟨⟨u0, hu0⟩, ⟨u1, hu1⟩⟩ := hO.cells2 rfl hlti
          have hf := hO.frozen
          have z0' := cell_al z0 (.cells #[.slice (some ad3) a[i].row.length rc, .int .i64 a[i].weight] 94)
          have z1' := cell_al z1 (.cells #[.slice (some ad3) a[i].row.length rc, .int .i64 a[i].weight] 94)
          have u0' := cell_al hu0 (.cells #[.slice (some ad3) a[i].row.length rc, .int .i64 a[i].weight] 94)
          have u1' := cell_al hu1 (.cells #[.slice (some ad3) a[i].row.length rc, .int .i64 a[i].weight] 94)
          have hL := World.block_lt_of_cell? wr _ hu0
          have HS := Lib.hid hset
          have HO := Lib.hid hO
          clear hset hO
          go_wp2
          go_roundw
          case rel =>
            refine ⟨i + 1, by omega, by go_num, ?_, ((hbi.setCell (Nat.le_refl _) _).setCell (Nat.le_refl _) _).alloc (by simp; have := hbi.size; simp at this; omega) _⟩
            have h1 := HO.out.set2 rfl (fun h => h) i ⟨xn, xt⟩ (.int .u64 xn) (.string xt) ⟨rfl, z2, z3⟩
            rw [HS.out] at h1
            exact h1.al _
          case measure => simp [intOf]; omega
        · have hi' : i = a.length := by omega
          have hfull : laidC a k a.length i = colOf a k := by
            rw [hi']; unfold laidC; rw [List.take_of_length_le (by simp [colOf])]; simp
          rw [hfull] at hO
          clear hfull hi'
          have q1 : wr.cell? ⟨wo.heap.size, 1, none⟩ = some (.int .i64 kd) := cell_lo hbi (by show wo.heap.size < wo.heap.size + 1; omega) (by simp)
          have hwr : Below wo.heap.size wo wr := (bel_alloc (Below.refl _ _) _).trans (hbi.mono (by omega))
          have hBr : Bx wr B base (acc ++ colsUpto s a k) := hB.by hwr
          have hzi := hwr.size
          have hcb : (columnBytes kd (colOf a k)).length ≤ 549755813888 := by
            have h1 := HL.out (k + 1) (by omega)
            rw [colsUpto_snoc, HKD.out] at h1
            simp only [List.length_append] at h1
            omega
          have W1x := Lib.hid (fun l vl F hl hn hok => W1.out kd l vl (acc ++ colsUpto s a k) wr F (hG _ hbw) hkk.1 hkk.2 hl hn hok hBr (by omega) (by have := HL.out k (by omega); omega))
          go_wp2_with (go_at_call 142; refine (W1x.out (colOf a k) _ _ hO.sl (by simp [colOf]; omega) (by have := HC.out k hlt; rwa [HKD.out] at this) (by omega)).mono ?_; rintro e w6 ⟨rfl, hB6, hb6⟩)
          go_roundw
          case rel => exact ⟨k + 1, by omega, by go_num, by rw [colsUpto_snoc, HKD.out, ← List.append_assoc]; exact hB6, hbw.trans hb6⟩
          case measure => simp [intOf]; omega
    · have hk' : k = s.length := by omega
      have HB := Lib.hid hB
      have HK := Lib.hid hk'
      clear hB hk'
      go_wp2
      go_end0
      have h1 := HB.out
      rw [HK.out] at h1
      exact ⟨rfl, h1, hbr⟩
end Go.Proofs.YtlhdndnohmikeaaGreatDoor

set_option linter.unusedVariables false
set_option linter.unusedSimpArgs false
namespace Go.Proofs.YtlhdndnohmikeaaGreatDoor
open Go.RowKit

theorem zsetLoop_rows {s : List Col} : ∀ {l : List Pair} {q : Option (List Cell)}, zsetLoop s q l = 0 → ∀ p ∈ l, rowCheck s p.row = 0 ∧ p.weight ≠ 0
  | [], _, _, _, h => by cases h
  | x :: l, q, h, p, hp => by
    simp only [zsetLoop] at h
    by_cases h0 : rowCheck s x.row = 0
    · rw [if_neg (by simp [h0])] at h
      by_cases h1 : x.weight = 0
      · simp [h1] at h
      · rw [if_neg h1] at h
        by_cases h2 : late s q x.row = true
        · simp [h2] at h
        · rw [if_neg h2] at h
          rcases List.mem_cons.1 hp with rfl | hp
          · exact ⟨h0, h1⟩
          · exact zsetLoop_rows h p hp
    · rw [if_pos h0] at h; exact absurd h h0
theorem rowCheck_cells {s : List Col} {r : List Cell} (h : rowCheck s r = 0) : schemaCheck s = 0 ∧ r.length = s.length ∧ ∀ j (hj : j < s.length) (hr : j < r.length), cellCheck s[j].kind r[j] = 0 := by
  unfold rowCheck at h
  by_cases h0 : schemaCheck s = 0
  · rw [if_neg (by simp [h0])] at h
    by_cases h1 : r.length = s.length
    · rw [if_neg (by simp [h1])] at h
      refine ⟨h0, h1, ?_⟩
      clear h0
      induction s generalizing r with
      | nil => intro j hj; simp at hj
      | cons c cs ih =>
        cases r with
        | nil => intro j _ hr; simp at hr
        | cons x xs =>
          simp only [cellsLoop] at h
          by_cases h2 : cellCheck c.kind x = 0
          · rw [if_neg (by simp [h2])] at h
            intro j hj hr
            cases j with
            | zero => exact h2
            | succ j => exact ih h (by simpa using h1) j (by simpa using hj) (by simpa using hr)
          · rw [if_pos h2] at h; exact absurd h h2
    · rw [if_pos (by simp [h1])] at h; omega
  · rw [if_pos h0] at h; exact absurd h h0
theorem zsetCheck_facts {s : List Col} {a : List Pair} (h : zsetCheck s a = 0) : schemaCheck s = 0 ∧ a.length ≤ 1024 ∧ ∀ p ∈ a, rowCheck s p.row = 0 ∧ p.weight ≠ 0 := by
  unfold zsetCheck at h
  by_cases h0 : schemaCheck s = 0
  · rw [if_neg (by simp [h0])] at h
    by_cases h1 : 1024 < a.length
    · rw [if_pos h1] at h; omega
    · rw [if_neg h1] at h
      exact ⟨h0, by omega, zsetLoop_rows h⟩
  · rw [if_pos h0] at h; exact absurd h h0
theorem zset_cols {s : List Col} {a : List Pair} (h : zsetCheck s a = 0) : (∀ p ∈ a, p.row.length = s.length) ∧ ∀ j, j < s.length → ColOK (kindOf s j) (colOf a j) := by
  obtain ⟨h0, h1, h2⟩ := zsetCheck_facts h
  refine ⟨fun p hp => (rowCheck_cells (h2 p hp).1).2.1, fun j hj c hc => ?_⟩
  obtain ⟨p, hp, rfl⟩ := List.mem_map.1 hc
  obtain ⟨_, hl, hcell⟩ := rowCheck_cells (h2 p hp).1
  have := hcell j hj (by omega)
  unfold kindOf cellOf
  rw [List.getElem?_eq_getElem hj, List.getD_eq_getElem?_getD, List.getElem?_eq_getElem (by omega)]
  exact this
theorem boolBytes_len (l : List Cell) : (boolBytes l).length ≤ l.length := by
  unfold boolBytes
  simp
  omega
theorem numbers_len : ∀ l : List Cell, (numbers l).length ≤ 10 * l.length
  | [] => by simp [numbers]
  | c :: l => by
    have h1 := deltas_len l c.num
    have h2 := wireUint_len10 c.num
    simp only [numbers, List.length_append, List.length_cons]
    omega
theorem columnBytes_len (k : Int) (l : List Cell) (h : ∀ c ∈ l, c.text.size ≤ 256) : (columnBytes k l).length ≤ 276 * l.length := by
  have h1 := deltas_len l 0
  have h2 := boolBytes_len l
  have h3 := texts_len l emptyS h
  have h4 := numbers_len l
  unfold columnBytes
  repeat' split
  all_goals omega
theorem colsUpto_len {s : List Col} {a : List Pair} (h : ∀ j, j < s.length → ColOK (kindOf s j) (colOf a j)) : ∀ k, k ≤ s.length → (colsUpto s a k).length ≤ 276 * a.length * k
  | 0, _ => by simp [colsUpto]
  | k + 1, hk => by
    have h1 := colsUpto_len h k (by omega)
    have h2 := columnBytes_len (kindOf s k) (colOf a k) (colOK_text (h k (by omega)))
    have h3 : (colOf a k).length = a.length := by simp [colOf]
    rw [h3] at h2
    rw [colsUpto_snoc, List.length_append, Nat.mul_add]
    omega
/-- The weights' bytes. -/
def weightBytes (a : List Pair) : List UInt8 := a.flatMap fun p => wireUint (zig p.weight)
theorem weightBytes_snoc (a : List Pair) (p : Pair) : weightBytes (a ++ [p]) = weightBytes a ++ wireUint (zig p.weight) := by simp [weightBytes]
theorem weightBytes_len (a : List Pair) : (weightBytes a).length ≤ 10 * a.length := by
  induction a with
  | nil => simp [weightBytes]
  | cons p a ih =>
    have := wireUint_len10 (zig p.weight)
    simp only [weightBytes, List.flatMap_cons, List.length_append, List.length_cons] at *
    omega
/-- A set's bytes. -/
def batchHead (s : List Col) (a : List Pair) : List UInt8 := wireUint (a.length : Int) ++ colsUpto s a s.length
def batchBytes (s : List Col) (a : List Pair) : List UInt8 := batchHead s a ++ weightBytes a
theorem batchHead_len {s : List Col} {a : List Pair} (h : zsetCheck s a = 0) : (batchHead s a).length ≤ 10 + 2208 * a.length := by
  obtain ⟨h0, h1, _⟩ := zsetCheck_facts h
  have h2 := colsUpto_len (zset_cols h).2 s.length (Nat.le_refl _)
  have h3 := (schemaCheck_len h0).2
  have h4 := wireUint_len10 (a.length : Int)
  have h5 : 276 * a.length * s.length ≤ 276 * a.length * 8 := Nat.mul_le_mul_left _ h3
  unfold batchHead
  rw [List.length_append]
  omega
set_option maxRecDepth 100000 in
set_option maxHeartbeats 4000000 in
theorem batchWrite_calls (s : List Col) (a : List Pair) (vs va : Value) (w : World) (F G : Nat → Prop) (hG : Glob w) (hs : SL colK w F vs s) (ha : SL pairK w G va a) (h0 : zsetCheck s a = 0) :
    Calls Tryz.prog 103 #[vs, va] w fun e w' => (∃ v, e = .returned (.tuple #[v, .int .i64 0]) ∧ Own byteK 5 w' w.heap.size (fun _ => False) v (batchBytes s a)) ∧ Below w.heap.size w w' := by
  obtain ⟨hsc, hal, hrows⟩ := zsetCheck_facts h0
  obtain ⟨hrl, hcol⟩ := zset_cols h0
  have hhl := batchHead_len h0
  have hfine := schemaCheck_fine6 hsc
  have h8 := (schemaCheck_len hsc).2
  have ZC := Lib.hid (h0 ▸ zsetCheck_calls s a vs va w F G hG hs ha)
  have HBH : Hid (wireUint (a.length : Int) ++ colsUpto s a s.length = batchHead s a) := rfl
  have EA := Lib.hid (fun W (hb : Below w.heap.size w W) B (hbx : Bx W B w.heap.size (wireUint (a.length : Int))) => each_calls s a vs va (wireUint (a.length : Int)) B w.heap.size W (fun k => F k ∧ k < w.heap.size) (fun k => G k ∧ k < w.heap.size) (fun W' h' => hG.below (hb.trans h')) (hs.since hb) (ha.since hb) (fun k h => h.2) (fun k h => h.2) hfine hrl hcol hal hbx hb.size (fun k hk => by
    have h2 := colsUpto_len hcol k hk
    have h4 := wireUint_len10 (a.length : Int)
    have h5 : 276 * a.length * k ≤ 276 * a.length * 8 := Nat.mul_le_mul_left _ (by omega)
    rw [List.length_append]; omega))
  obtain ⟨A, c, rfl, _, _⟩ := hs.form
  obtain ⟨A', c', rfl, _, _⟩ := ha.form
  have WU := Lib.hid (fun W => wireUint_calls (a.length : Int) W ⟨by omega, by omega⟩)
  have WI := Lib.hid (fun (x : Int) (W : World) (hx : I64 x) => wireInt_calls x W hx)
  clear hsc hrows hrl hcol hfine h0
  go_enter Tryz.func103, Tryz.ntmps103
  go_wp2_with (first
    | (go_at_call 83; refine ZC.out.mono ?_; rintro e w1 ⟨rfl, hb1⟩)
    | (go_at_call 89; refine (WU.out _).mono ?_; rintro e w2 ⟨⟨v2, rfl, ho2⟩, hb2⟩; obtain ⟨A2, c2, rfl, _, _⟩ := ho2.sl.form)
    | (go_at_call 141; refine (EA.out _ (bel_alloc (bel_trans hb1 hb2) _) _ (Bx.new ho2 hb1.size (bel_trans hb1 hb2).size)).mono ?_; rintro e w3 ⟨rfl, hB3, hb3⟩))
  rw [HBH.out] at hB3
  have hbw3 : Below w.heap.size w w3 := (bel_alloc (bel_trans hb1 hb2) _).trans hb3
  clear hb3
  generalize hBq : w2.heap.size = B at *
  have hB0 : Bx w3 B w.heap.size (batchHead s a ++ weightBytes (a.take 0)) := by simpa [weightBytes] using hB3
  clear hBq hB3
  go_loopw [26] (fun vi wr => ∃ k : Nat, k ≤ a.length ∧ vi = .int .i64 k ∧ Bx wr B w.heap.size (batchHead s a ++ weightBytes (a.take k)) ∧ Below w.heap.size w wr) (fun vi _ => a.length - (intOf vi).toNat)
  case atStart => exact ⟨0, by omega, by simp, hB0, hbw3⟩
  case round =>
    obtain ⟨k, hk, rfl, hB, hbr⟩ := hrel
    by_cases hlt : k < a.length
    · obtain ⟨ad, r, rfl, l1, x0, x1, x2, x3⟩ := pair_at (ha.below hbr) hlt
      have k0 : (k : Int) < a.length := by omega
      obtain ⟨rA, rc, rfl, _, _⟩ := x2.form
      have hwl := weightBytes_len (a.take k)
      rw [List.length_take] at hwl
      have hac : (batchHead s a ++ weightBytes (a.take k)).length ≤ 549755813888 := by rw [List.length_append]; omega
      have hsn : batchHead s a ++ weightBytes (a.take (k + 1)) = batchHead s a ++ weightBytes (a.take k) ++ wireUint (zig a[k].weight) := by rw [List.take_succ_eq_append_getElem hlt, weightBytes_snoc, List.append_assoc]
      generalize batchHead s a ++ weightBytes (a.take k) = acc at *
      obtain ⟨wt, hwt⟩ : ∃ x, a[k].weight = x := ⟨_, rfl⟩
      rw [hwt] at hsn x1 x3
      have HS := Lib.hid hsn
      clear hsn hwt hwl
      have h10 := wireUint_len10 (zig wt)
      have WIx := Lib.hid (fun W => WI.out wt W x3)
      have hz := hbr.size
      have hbx' := hB.by (bel_alloc (Below.refl _ _) (.cells #[.slice rA a[k].row.length rc, .int .i64 wt] 94))
      obtain ⟨⟨vo, y1, y2, y3⟩, y4, y5⟩ := hbx'
      have hBl := hB.lt
      have mx := mixed
      go_wp2
      go_region_law (first
        | (refine step_append_sl byteK elemByte rfl _ _ 36 (by rfl) Tryz.underlying36 (by rfl) y2' (by rfl) hs4 flatF flatF ?_ ?_ ?_ ?_; (unfold maxLen; omega); omega; omega; rintro v5 w5 hA5; obtain ⟨A5, c5, rfl, _, _⟩ := hA5.1.sl.form; obtain ⟨hp1, hp2, u5, hp3⟩ := Bx.put (Nat.lt_trans hBl hz4) hf4 y1' y5 y3 (fun k hk => (y2'.lt k hk).1) hA5; rw [List.length_append] at hp1)
        | (go_simp; go_at_call 144; refine (WIx.out _).mono ?_; rintro e w4 ⟨⟨v4, rfl, ho4⟩, hb4⟩; obtain ⟨A4, c4, rfl, _, _⟩ := ho4.sl.form; have hs4 := ho4.sl; have y1' := cell_by hb4 y1; have hf4 : w4.frozen? ⟨B, 0, none⟩ = false := froz_by hb4 (World.block_lt_of_cell? _ _ y1) y4; have y2' := y2.drew.below hb4; have hz4 : wr.heap.size < w4.heap.size := World.block_lt_of_cell? w4 _ (cell_by hb4 (show (wr.alloc (.cells #[.slice rA a[k].row.length rc, .int .i64 wt] 94)).drew.cell? ⟨wr.heap.size, 0, none⟩ = _ from (cell_new2 _ _ _ _).1))))
      all_goals
        go_wp2
        go_roundw
        case rel =>
          have hb4' : Below wr.heap.size wr w4 := bel_trans (bel_drew (bel_alloc (Below.refl _ _) _)) hb4
          exact ⟨k + 1, by omega, by go_num, by rw [HS.out]; exact hp1, (bel_grown (bel_trans hbr hb4') hA5.2.1 (fun k hk => (y2'.lt k hk).1)).setCell y5 _⟩
        case measure => simp [intOf]; omega
    · have hk' : k = a.length := by omega
      have HK := Lib.hid hk'
      obtain ⟨⟨vo, y1, y2, y3⟩, y4, y5⟩ := hB
      have HY := Lib.hid y2
      clear hk' y2
      go_wp2
      refine bodyPost_ret (results_tmp2 rfl _ _ _) rfl ⟨⟨_, rfl, ?_⟩, hbr⟩
      have h1 := HY.out
      rw [HK.out, List.take_length] at h1
      exact h1
end Go.Proofs.YtlhdndnohmikeaaGreatDoor

set_option linter.unusedVariables false
set_option linter.unusedSimpArgs false
namespace Go.Proofs.YtlhdndnohmikeaaGreatDoor
open Go.RowKit

def entryPayload (s : List Col) (e : Entry) : List UInt8 := wireUint e.seq ++ batchBytes s e.pairs
def frameKind (k : Int) : Int := if k = 1 then 1 else 2
/-- What is wrong with an entry, as it is written. -/
def entryErr (s : List Col) (e : Entry) : Int := if entryCheck s e ≠ 0 then entryCheck s e else if 1048576 < (entryPayload s e).length then 13 else 0
def entryBytes (s : List Col) (e : Entry) : List UInt8 := frameBytes (frameKind e.kind) (entryPayload s e)
theorem entryCheck_facts {s : List Col} {e : Entry} (h : entryCheck s e = 0) : schemaCheck s = 0 ∧ (e.kind = 0 ∨ e.kind = 1) ∧ (0 ≤ e.seq ∧ e.seq ≤ 281474976710656) ∧ zsetCheck s e.pairs = 0 := by
  unfold entryCheck at h
  by_cases h0 : schemaCheck s = 0
  · rw [if_neg (by simp [h0])] at h
    by_cases h1 : e.kind < 0 ∨ 2 ≤ e.kind
    · rw [if_pos h1] at h; omega
    · rw [if_neg h1] at h
      by_cases h2 : e.seq < 0 ∨ 281474976710656 < e.seq
      · rw [if_pos h2] at h; omega
      · rw [if_neg h2] at h
        exact ⟨h0, by omega, by omega, h⟩
  · rw [if_pos h0] at h; exact absurd h h0
theorem batchBytes_len {s : List Col} {a : List Pair} (h : zsetCheck s a = 0) : (batchBytes s a).length ≤ 10 + 2218 * a.length := by
  have h1 := batchHead_len h
  have h2 := weightBytes_len a
  unfold batchBytes
  rw [List.length_append]
  omega
set_option maxRecDepth 100000 in
set_option maxHeartbeats 600000 in
theorem entryWrite_yes (s : List Col) (e : Entry) (vs vp : Value) (w : World) (F G : Nat → Prop) (hG : Glob w) (hs : SL colK w F vs s) (hp : SL pairK w G vp e.pairs) (h0 : entryCheck s e = 0) :
    Calls Tryz.prog 52 #[vs, .agg #[.int .i64 e.kind, .int .i64 e.seq, vp]] w fun x w' => (∃ v, x = .returned (.tuple #[v, .int .i64 (entryErr s e)]) ∧ Own byteK 5 w' w.heap.size (fun _ => False) v (if entryErr s e = 0 then entryBytes s e else [])) ∧ Below w.heap.size w w' := by
  obtain ⟨hsc, hkd, ⟨hs0, hs1⟩, hz⟩ := entryCheck_facts h0
  have hzl := (zsetCheck_facts hz).2.1
  have hbl := batchBytes_len hz
  have hu1 := wireUint_len10 e.seq
  have hpl : (entryPayload s e).length ≤ 2300000 := by unfold entryPayload; rw [List.length_append]; omega
  obtain ⟨A, c, rfl, _, _⟩ := hs.form
  obtain ⟨B, c', rfl, _, _⟩ := hp.form
  have EC := Lib.hid (fun W (h : Below w.heap.size w W) => h0 ▸ entryCheck_calls s e _ _ W _ _ (hG.below h) (hs.below h) (hp.below h))
  have BW := Lib.hid (fun W (h : Below w.heap.size w W) => batchWrite_calls s e.pairs _ _ W _ _ (hG.below h) (hs.below h) (hp.below h) hz)
  have WU := Lib.hid (fun W => wireUint_calls e.seq W ⟨by omega, by omega⟩)
  have hfk : frameErr (frameKind e.kind) (entryPayload s e) = entryErr s e := by
    unfold entryErr frameErr frameKind
    rcases hkd with h | h <;> simp [h, h0]
  have FW := Lib.hid (fun W F v (h : SL byteK W F v (entryPayload s e)) => frameWrite_calls (frameKind e.kind) (entryPayload s e) v W F (by unfold I64; rcases hkd with h | h <;> (rw [h]; decide)) h)
  rw [hfk] at FW
  have HEB : Hid (entryBytes s e = frameBytes (frameKind e.kind) (entryPayload s e)) := rfl
  have HP : Hid (wireUint e.seq ++ batchBytes s e.pairs = entryPayload s e) := rfl
  rw [HEB.out]
  have hfr : ∀ W, Below w.heap.size w W → W.cell? ⟨0, e.kind.toNat, none⟩ = some (.int .i64 (frameKind e.kind)) := fun W h => by
    rcases hkd with h' | h' <;> rw [h']
    · exact (hG.below h).frames0
    · exact (hG.below h).frames1
  have HFR := Lib.hid hfr
  have hk0 : 0 ≤ e.kind := by omega
  have hk2 : e.kind < 2 := by omega
  clear hfk h0 hsc hkd hfr HEB
  generalize frameBytes (frameKind e.kind) (entryPayload s e) = fb at *
  generalize entryErr s e = ee at *
  generalize (if ee = 0 then fb else []) = res at *
  generalize frameKind e.kind = fk at *
  generalize batchBytes s e.pairs = bb at *
  generalize entryPayload s e = pl at *
  obtain ⟨kd, sq, ps⟩ := e
  simp only at *
  obtain ⟨kn, rfl⟩ := Int.eq_ofNat_of_zero_le hk0
  have hkn : kn < 2 := by omega
  rw [show ((kn : Int)).toNat = kn from rfl] at HFR
  go_enter Tryz.func52, Tryz.ntmps52
  go_wp2_with (first
    | (go_at_call 96; refine (EC.out _ (bel_alloc (Below.refl _ _) _)).mono ?_; rintro x w1 ⟨rfl, hb1⟩; have q2 := cell_by hb1 (show (w.alloc (.cells #[.int .i64 (kn : Int), .int .i64 sq, .slice B ps.length c'] 58)).cell? ⟨w.heap.size, 2, none⟩ = some (.slice B ps.length c') by simp); have q1 := cell_by hb1 (show (w.alloc (.cells #[.int .i64 (kn : Int), .int .i64 sq, .slice B ps.length c'] 58)).cell? ⟨w.heap.size, 1, none⟩ = some (.int .i64 sq) by simp); have q0 := cell_by hb1 (show (w.alloc (.cells #[.int .i64 (kn : Int), .int .i64 sq, .slice B ps.length c'] 58)).cell? ⟨w.heap.size, 0, none⟩ = some (.int .i64 (kn : Int)) by simp))
    | (go_at_call 103; refine (BW.out _ (bel_trans (bel_alloc (Below.refl _ _) _) hb1)).mono ?_; rintro x w2 ⟨⟨v2, rfl, ho2⟩, hb2⟩; have r0 := cell_by hb2 q0; have r1 := cell_by hb2 q1; obtain ⟨A2, c2, rfl, _, _⟩ := ho2.sl.form))
  have hbw2 : Below w.heap.size w w2 := bel_trans (bel_trans (bel_alloc (Below.refl _ _) _) hb1) hb2
  have g0 := HFR.out _ hbw2
  have gl : 0 < w.heap.size := World.block_lt_of_cell? w _ hG.frames0
  have hw2 := hbw2.size
  have hz2 := hb2.size
  have hw2s : w.heap.size < w2.heap.size := World.block_lt_of_cell? w2 _ r0
  have k1 : (kn : Int) < 2 := by omega
  have hu : IntKind.u64.wrap sq = sq := by rw [wrapU]; omega
  go_region_held3 (fun w' => w'.cell? ⟨w.heap.size, 0, none⟩ = some (.int .i64 (kn : Int)) ∧ w'.cell? ⟨w.heap.size, 1, none⟩ = some (.int .i64 sq) ∧ w'.cell? ⟨0, kn, none⟩ = some (.int .i64 fk))
    (first
      | exact ⟨r0, r1, g0⟩
      | (go_split_ands; exact ⟨cell_by hb3 (by assumption), cell_by hb3 (by assumption), cell_by hb3 (by assumption)⟩)
      | (go_split_ands; exact ⟨cell_grown hg4 n1 (by assumption), cell_grown hg4 n1 (by assumption), cell_grown hg4 n0 (by assumption)⟩)
      | (go_split_ands; exact ⟨cell_by hb5 (by assumption), cell_by hb5 (by assumption), cell_by hb5 (by assumption)⟩))
    (first
      | (go_at_call 89; refine (WU.out _).mono ?_; go_loud (rintro x w3 ⟨⟨v3, rfl, ho3⟩, hb3⟩; have ho2' := (ho2.drew).below hb3; have hs2' := ho2'.sl; have hb3' : Below w2.heap.size w2 w3 := bel_trans (bel_drew (Below.refl _ _)) hb3; have hz3 := hb3'.size; have n1 : v3.ownBlock ≠ some w.heap.size := fun e => Nat.lt_irrefl _ (Nat.lt_of_lt_of_le hw2s (ho3.lt _ e).1); have n0 : v3.ownBlock ≠ some 0 := fun e => Nat.lt_irrefl _ (Nat.lt_of_lt_of_le (Nat.lt_trans gl hw2s) (ho3.lt _ e).1)))
      | (refine step_append_sl byteK elemByte rfl _ _ 36 (by rfl) Tryz.underlying36 (by rfl) ho3 (by rfl) hs2' flatF flatF ?_ ?_ ?_ ?_; (unfold maxLen; omega); omega; exact hb3.size; rintro v4 w4 ⟨ho4, hg4, ha4⟩; obtain ⟨A4, c4, rfl, _, _⟩ := ho4.sl.form; have hs4 := ho4.sl.any; rw [List.length_append, HP.out] at hs4)
      | (go_at_call 68; refine (FW.out _ _ _ hs4).mono ?_; rintro x w5 ⟨⟨v5, rfl, ho5⟩, hb5⟩))
  go_wp2
  have hb4 : Below w.heap.size w w4 := bel_grown (bel_trans hbw2 hb3') hg4 (fun k hk => by have := (ho3.lt k hk).1; have := (bel_drew (Below.refl _ w2)).size; omega)
  exact bodyPost_ret (results_tmp2 rfl _ _ _) rfl ⟨⟨_, rfl, ho5.lower hb4.size⟩, bel_trans hb4 hb5⟩
theorem entryWrite_no (s : List Col) (e : Entry) (vs vp : Value) (w : World) (F G : Nat → Prop) (hG : Glob w) (hs : SL colK w F vs s) (hp : SL pairK w G vp e.pairs) (h0 : entryCheck s e ≠ 0) :
    Calls Tryz.prog 52 #[vs, .agg #[.int .i64 e.kind, .int .i64 e.seq, vp]] w fun x w' => x = .returned (.tuple #[.slice none 0 0, .int .i64 (entryCheck s e)]) ∧ Below w.heap.size w w' := by
  obtain ⟨A, c, rfl, _, _⟩ := hs.form
  obtain ⟨B, c', rfl, _, _⟩ := hp.form
  have EC := Lib.hid (fun W (h : Below w.heap.size w W) => entryCheck_calls s e _ _ W _ _ (hG.below h) (hs.below h) (hp.below h))
  obtain ⟨x, hx⟩ : ∃ x, entryCheck s e = x := ⟨_, rfl⟩
  rw [hx] at EC h0 ⊢
  have g0 := bne_true h0
  clear hx h0
  go_enter Tryz.func52, Tryz.ntmps52
  go_wp2_with (go_at_call 96; refine (EC.out _ (bel_alloc (Below.refl _ _) _)).mono ?_; rintro x w1 ⟨rfl, hb1⟩)
  exact bodyPost_ret (results_tmp2 rfl _ _ _) rfl ⟨rfl, bel_trans (bel_alloc (Below.refl _ _) _) hb1⟩
theorem entryWrite_calls (s : List Col) (e : Entry) (vs vp : Value) (w : World) (F G : Nat → Prop) (hG : Glob w) (hs : SL colK w F vs s) (hp : SL pairK w G vp e.pairs) :
    Calls Tryz.prog 52 #[vs, .agg #[.int .i64 e.kind, .int .i64 e.seq, vp]] w fun x w' => (∃ v, x = .returned (.tuple #[v, .int .i64 (entryErr s e)]) ∧ Own byteK 5 w' w.heap.size (fun _ => False) v (if entryErr s e = 0 then entryBytes s e else [])) ∧ Below w.heap.size w w' := by
  by_cases h0 : entryCheck s e = 0
  · exact entryWrite_yes s e vs vp w F G hG hs hp h0
  · have he : entryErr s e = entryCheck s e := by unfold entryErr; rw [if_pos h0]
    rw [he, if_neg h0]
    exact (entryWrite_no s e vs vp w F G hG hs hp h0).mono fun x w' ⟨hx, hb⟩ => ⟨⟨_, hx, Own.nil _ _ _ _ _⟩, hb⟩
end Go.Proofs.YtlhdndnohmikeaaGreatDoor
