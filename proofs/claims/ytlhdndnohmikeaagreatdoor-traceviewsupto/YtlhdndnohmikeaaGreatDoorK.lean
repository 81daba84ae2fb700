/-
  More words of the walks: slices behind draws and new blocks, strings turned to bytes, append as a step of a region that draws its order.
-/
import Derived.Test.YtlhdndnohmikeaaGreatDoorApp
import Derived.Laws.IdiomStrings
import Derived.Deep.RegionHeld3
set_option linter.unusedVariables false
set_option linter.unusedSimpArgs false
namespace Go.Proofs.YtlhdndnohmikeaaGreatDoor
open Go.RowKit

section
variable {α : Type} {d : Kind α} {w w' : World} {F F' : Nat → Prop} {v : Value} {xs : List α} {e base : Nat}
theorem SL.drew (h : SL d w F v xs) : SL d w.drew F v xs := h.keep (fun _ _ _ => rfl) (Nat.le_refl _)
theorem SL.drewN (h : SL d w F v xs) (n : Nat) : SL d (w.drewN n) F v xs := h.keep (fun _ _ _ => rfl) (Nat.le_refl _)
theorem SL.al (h : SL d w F v xs) (o : Obj) : SL d (w.alloc o) F v xs := h.keep (Kept.alloc _ _ _) (by simp)
theorem SL.set (h : SL d w F v xs) {p : Addr} (u : Value) (hp : ¬ F p.block) : SL d (w.setCell p u) F v xs := h.keep (Kept.set u hp) (by simp)
theorem Own.drew (h : Own d e w base F v xs) : Own d e w.drew base F v xs := h.below (bel_drew (Below.refl _ _))
theorem Own.drewN (h : Own d e w base F v xs) (n : Nat) : Own d e (w.drewN n) base F v xs := h.below (bel_drewN (Below.refl _ _) n)
theorem Own.al (h : Own d e w base F v xs) (o : Obj) : Own d e (w.alloc o) base F v xs := h.below (bel_alloc (Below.refl _ _) o)
theorem Own.any (h : Own d e w base F v xs) : Own d e w base (fun _ => True) v xs := h.wid fun _ _ _ => trivial
/-- What lies above n is not the row that was appended to. -/
theorem keepRow {n : Nat} {row : Option Nat} (hg : w.grownBy w' row) (hr : ∀ k, row = some k → k < n) : ∀ {β : Type} {d : Kind β} {v : Value} {xs : List β}, SL d w (fun k => n ≤ k) v xs → SL d w' (fun k => n ≤ k) v xs :=
  fun h => h.keep (Kept.of_grown hg fun k hk hF => by have := hr k hk; omega) hg.size
end
theorem cell_by {w w' : World} {b o : Nat} {v : Value} (hb : Below w.heap.size w w') (h : w.cell? ⟨b, o, none⟩ = some v) : w'.cell? ⟨b, o, none⟩ = some v := (hb.cell (World.block_lt_of_cell? w _ h)).trans h
theorem cell_bya {w w' : World} {a : Addr} {v : Value} (hb : Below w.heap.size w w') (h : w.cell? a = some v) : w'.cell? a = some v := (hb.cell (World.block_lt_of_cell? w _ h)).trans h
theorem cell_lo {B : Nat} {w w' : World} {a : Addr} {v : Value} (hb : Below B w w') (hl : a.block < B) (h : w.cell? a = some v) : w'.cell? a = some v := (hb.cell hl).trans h
theorem cell_grown {w w' : World} {b o : Nat} {v : Value} {row : Option Nat} (hg : w.grownBy w' row) (hr : row ≠ some b) (h : w.cell? ⟨b, o, none⟩ = some v) : w'.cell? ⟨b, o, none⟩ = some v :=
  (World.cell?_of_block (hg.block b (World.block_lt_of_cell? w _ h) (fun e => hr e.symm))).trans h
theorem froz_by {w w' : World} {b o : Nat} (hb : Below w.heap.size w w') (hl : b < w.heap.size) (h : w.frozen? ⟨b, o, none⟩ = false) : w'.frozen? ⟨b, o, none⟩ = false := (hb.frozen hl).trans h

theorem u8_of (x : Int) (h0 : 0 ≤ x) (h1 : x < 256) : ((UInt8.ofNat x.toNat).toNat : Int) = x := by
  have : (UInt8.ofNat x.toNat).toNat = x.toNat % 256 := by simp
  rw [this]; omega
theorem cell_new2 (W : World) (u v : Value) (t : TypeId) : (W.alloc (.cells #[u, v] t)).cell? ⟨W.heap.size, 0, none⟩ = some u ∧ (W.alloc (.cells #[u, v] t)).cell? ⟨W.heap.size, 1, none⟩ = some v := by
  constructor <;> simp
theorem Kept.tr {F : Nat → Prop} {a b c : World} (h : Kept F a b) (k : Kept F b c) (hs : a.heap.size ≤ b.heap.size) : Kept F a c := fun i hi hl => (k i hi (Nat.lt_of_lt_of_le hl hs)).trans (h i hi hl)
theorem Kept.wid {F F' : Nat → Prop} {a b : World} (h : Kept F a b) (hF : ∀ k, F' k → F k) : Kept F' a b := fun i hi hl => h i (hF i hi) hl
theorem kept_cell {F : Nat → Prop} {w w' : World} {b o : Nat} {v : Value} (hk : Kept F w w') (hF : F b) (h : w.cell? ⟨b, o, none⟩ = some v) : w'.cell? ⟨b, o, none⟩ = some v :=
  (World.cell?_of_block (hk b hF (World.block_lt_of_cell? w _ h))).trans h
/-- One byte in a block of its own. -/
theorem oneB (w : World) (n g : Nat) (x : Int) (h0 : 0 ≤ x) (h1 : x < 256) (hg : w.heap.size = g) (hn : n ≤ g) : SL byteK (w.alloc (.cells #[.int .u8 x] 5)) (fun k => n ≤ k) (.slice (some ⟨g, 0, none⟩) 1 1) [UInt8.ofNat x.toNat] := by
  subst hg
  have hr : byteK.rel w (fun _ => False) (UInt8.ofNat x.toNat) [.int .u8 x] := ⟨by show _ = [Value.int .u8 ((UInt8.ofNat x.toNat).toNat : Int)]; rw [u8_of x h0 h1], trivial⟩
  exact (SL.single 5 hr).wid fun k hk _ => hk.elim False.elim fun e => e ▸ hn
/-- A string's bytes. -/
def strBytes (s : ByteArray) : List UInt8 := s.data.toList
theorem strBytes_len (s : ByteArray) : (strBytes s).length = s.size := rfl
theorem strB (w : World) (n g cap : Nat) (s : ByteArray) (e : TypeId) (fr : Nat × Nat) (hs : s.size ≤ cap) (hc : cap ≤ maxLen) (hg : w.heap.size = g) (hn : n ≤ g) : SL byteK (w.alloc (.cells (bytesRow s cap) e fr)) (fun k => n ≤ k) (.slice (some ⟨g, 0, none⟩) s.size cap) (strBytes s) := by
  subst hg
  refine ⟨_, cap, (strBytes s).map fun b => .int .u8 (b.toNat : Int), by rw [strBytes_len], by rw [strBytes_len]; exact hs, hc, fun _ => ⟨_, rfl, hn, by simp, fun j u hu => ?_⟩, ?_⟩
  · rw [List.getElem?_map] at hu
    obtain ⟨b, hb, rfl⟩ := Option.map_eq_some_iff.1 hu
    obtain ⟨hj, rfl⟩ := List.getElem?_eq_some_iff.1 hb
    have hj' : j < s.data.size := by simpa [strBytes] using hj
    have h1 : (w.alloc (.cells (bytesRow s cap) e fr)).heap[w.heap.size]? = some (.cells (bytesRow s cap) e fr) := by show (w.heap.push _)[w.heap.size]? = _; simp
    rw [show ((⟨w.heap.size, 0, none⟩ : Addr).add j) = ⟨w.heap.size, j, none⟩ by unfold Addr.add; split <;> simp_all]
    unfold World.cell?
    simp only [h1]
    have := bytesRow_at s cap j hj'
    simpa [strBytes] using this
  · generalize strBytes s = l
    induction l with
    | nil => exact .nil
    | cons b l ih => exact .cons (c := [.int .u8 (b.toNat : Int)]) ⟨rfl, trivial⟩ ih

theorem strBm (w : World) (n g cap m : Nat) (s : ByteArray) (e : TypeId) (fr : Nat × Nat) (hm : s.size = m) (hs : m ≤ cap) (hc : cap ≤ maxLen) (hg : w.heap.size = g) (hn : n ≤ g) : SL byteK (w.alloc (.cells (bytesRow s cap) e fr)) (fun k => n ≤ k) (.slice (some ⟨g, 0, none⟩) m cap) (strBytes s) := by
  subst hm; exact strB w n g cap s e fr hs hc hg hn

/-- append, as a step of a region that draws its order. -/
theorem step_append_sl {α : Type} (d : Kind α) {ops : Array Oper} {o : Oper} {a : Act} {w : World} {K : Act → World → Prop} {Q : Exit → Act → World → Prop} {E : Prop} {base e bytes : Nat} (he : Elem e d.sz bytes) (hgd : o.guard = none) (s x : Operand) (t : TypeId)
    (ho : o.op = .call { callee := .builtin .append, args := #[s, x], argTypes := #[t, t] }) (ht : Tryz.prog.underlying t = some (.slice e))
    {F G : Nat → Prop} {v : Value} {xs ys : List α} (hs : a.eval s = v) (hown : Own d e w base F v xs) {A : Option Addr} {m c : Nat} (hx : a.eval x = .slice A m c) (hsl : SL d w G (.slice A m c) ys)
    (hF : ∀ w', w.grownBy w' v.ownBlock → ∀ x cs, d.rel w F x cs → d.rel w' F x cs) (hG : ∀ w', w.grownBy w' v.ownBlock → ∀ x cs, d.rel w G x cs → d.rel w' F x cs)
    (h63 : xs.length + ys.length ≤ maxLen) (hbytes : (xs.length + ys.length) * bytes ≤ 140737488355328) (hbase : base ≤ w.heap.size)
    (h : ∀ v' w', Appended d e base F w v (xs ++ ys) v' w' → K (a.put o.dst v') w') : if Region.wanted o (yielded ops a.tmps) = true then Oper.wp Tryz.prog o a w K Q else E := by
  have hw : Region.wanted o (yielded ops a.tmps) = true := by simp [Region.wanted, hgd]
  rw [if_pos hw]
  obtain ⟨v', w', hrun, hA⟩ := run_append_own_sl d he t o.type ht hown hsl hF hG h63 hbytes hbase
  unfold Oper.wp execOp
  simp only [ho, resolve, invoke, builtin, Sem.run_bind, Sem.run_pure, Result.andThen_ok, List.map_toArray, List.map_cons, List.map_nil, hs, hx, hrun]
  exact h v' w' hA
theorem Own.above {α : Type} {d : Kind α} {e : Nat} {w : World} {base n : Nat} {F : Nat → Prop} {v : Value} {xs : List α} (h : Own d e w base F v xs) (hn : n ≤ base) (hF : ∀ k, F k → n ≤ k) : SL d w (fun k => n ≤ k) v xs :=
  h.sl.wid fun k hk _ => hk.elim (hF k) fun h => Nat.le_trans hn h

theorem row_ne {v v5 : Value} {b n : Nat} (ha : v5.ownBlock = v.ownBlock ∨ v5.ownBlock = some n) (h1 : ∀ k, v.ownBlock = some k → k ≠ b) (h2 : n ≠ b) : v5.ownBlock ≠ some b := fun e => by
  rcases ha with h | h
  · exact h1 b (h ▸ e) rfl
  · rw [h] at e
    injection e with e
    exact h2 e

theorem cell_set_on {w : World} {b o : Nat} {u v : Value} (h : w.cell? ⟨b, o, none⟩ = some v) : (w.setCell ⟨b, o, none⟩ u).cell? ⟨b, o, none⟩ = some u := World.cell?_setCell_same' _ _ _ (by rw [h]; rfl)
theorem cell_set_off {w : World} {b o o' : Nat} {u v : Value} (h : w.cell? ⟨b, o', none⟩ = some v) (hne : o ≠ o') : (w.setCell ⟨b, o, none⟩ u).cell? ⟨b, o', none⟩ = some v := (World.cell?_setCell_other _ _ _ _ (by simp [hne])).trans h
theorem gbel {w w' : World} (h : Below w.heap.size w w') (b : Nat) : w.grownBy w' (some b) := ⟨h.os, h.tape, h.output, h.size, fun k hk _ => h.block k hk⟩
theorem gset {w w' : World} {b o : Nat} (u : Value) (h : w.grownBy w' (some b)) : w.grownBy (w'.setCell ⟨b, o, none⟩ u) (some b) :=
  ⟨h.os, h.tape, h.output, by simpa using h.size, fun k hk hne => (Below.heap_setCell w' ⟨b, o, none⟩ u k (fun e => hne (by rw [e]))).trans (h.block k hk hne)⟩
theorem gtrans {w w' w'' : World} {b : Nat} (h : w.grownBy w' (some b)) (k : w'.grownBy w'' (some b)) : w.grownBy w'' (some b) :=
  ⟨k.os.trans h.os, k.tape.trans h.tape, k.output.trans h.output, Nat.le_trans h.size k.size, fun j hj hne => (k.block j (Nat.lt_of_lt_of_le hj h.size) hne).trans (h.block j hj hne)⟩

/-! ### make, and stores into rows of structs -/
theorem madeCells_rel {α : Type} {R : α → List Value → Prop} {x : α} (z : Array Value) (hz : 0 < z.size) (h : R x z.toList) : ∀ n, Rel R (List.replicate n x) (madeCells z (n * z.size)).toList
  | 0 => by simpa [madeCells] using Rel.nil
  | n + 1 => by
    have ih := madeCells_rel z hz h n
    have e : (madeCells z ((n + 1) * z.size)).toList = z.toList ++ (madeCells z (n * z.size)).toList := by
      unfold madeCells
      rw [show (n + 1) * z.size = z.size + n * z.size by rw [Nat.add_mul, Nat.one_mul, Nat.add_comm]]
      simp only [Array.toList_map, Array.toList_range]
      rw [List.range_add, List.map_append, List.map_map]
      congr 1
      · apply List.ext_getElem
        · simp
        · intro i h1 h2
          have hi : i < z.size := by simpa using h2
          simp [Nat.mod_eq_of_lt hi, hi]
      · apply List.map_congr_left
        intro i _
        simp
    rw [e, List.replicate_succ]
    exact .cons h ih
theorem makeOf {α : Type} (d : Kind α) {t e bytes : Nat} {z : Value} {x : α} (hinfo : (Tryz.prog.info? e).map (fun i => (i.zero, i.size, i.bytes)) = some (some z, d.sz, bytes)) (ht : Tryz.prog.underlying t = some (.slice e)) (hzs : z.cells.size = d.sz)
    (hx : ∀ w F, d.rel w F x z.cells.toList) (n : Nat) (w : World) (hn : n * d.sz ≤ 16777216) (hb : bytes * n ≤ 281474976710656) (hm : n ≤ maxLen) :
    ∃ w', (Instr.makeSlice t (.int .i64 (n : Int)) (.int .i64 (n : Int))).run Tryz.prog w = .ok (.slice (some ⟨w.heap.size, 0, none⟩) n n) w' ∧ Own d e w' w.heap.size (fun _ => False) (.slice (some ⟨w.heap.size, 0, none⟩) n n) (List.replicate n x) ∧ Below w.heap.size w w' := by
  obtain ⟨i, hi, hz, hs, hby⟩ := info_parts hinfo
  obtain ⟨w', h1, h2, h3⟩ := run_makeSlice_full (P := Tryz.prog) w w.heap.size t e i z d.sz ht hi hz hs .i64 .i64 n hn (by rw [hby]; exact hb) hm (Nat.le_refl _)
  refine ⟨w', h1, ⟨_, by rw [List.length_replicate]; exact h2, ?_⟩, ⟨h3.os, h3.tape, h3.output, h3.size, fun k hk => h3.block k hk (by simp)⟩⟩
  rw [← hzs]
  exact madeCells_rel z.cells (by rw [hzs]; exact d.pos) (hx _ _) n
theorem rel_set2 {α : Type} {R R' : α → List Value → Prop} {x : α} {u v : Value} (hR : ∀ y c, R y c → c.length = 2 ∧ R' y c) (hx : R' x [u, v]) : ∀ {xs : List α} {cs : List Value} (i : Nat), Rel R xs cs → Rel R' (xs.set i x) ((cs.set (i * 2) u).set (i * 2 + 1) v) := by
  intro xs cs i h
  induction h generalizing i with
  | nil => exact .nil
  | @cons y c ys cs h1 h2 ih =>
    obtain ⟨hl, hr⟩ := hR y c h1
    match c, hl with
    | [a, b], _ =>
      cases i with
      | zero => exact .cons (c := [u, v]) hx (h2.mono fun y c h => (hR y c h).2)
      | succ i =>
        have := ih i
        rw [show (i + 1) * 2 = i * 2 + 2 by omega]
        exact .cons (c := [a, b]) hr this
theorem Own.len_eq {α : Type} {d : Kind α} {e : Nat} {w : World} {base n cap : Nat} {F : Nat → Prop} {a : Addr} {xs : List α} (h : Own d e w base F (.slice (some a) n cap) xs) : n = xs.length := by
  obtain ⟨cs, ho, hr⟩ := h
  rcases ho.2 with ⟨h1, _⟩ | ⟨g', cap', cur, h1, _⟩
  · cases h1
  · injection h1
/-- A struct of two cells is stored. -/
theorem Own.set2 {α : Type} {d : Kind α} {e : Nat} {w : World} {base g n cap : Nat} {F : Nat → Prop} {xs : List α} (hd : d.sz = 2) (h : Own d e w base F (.slice (some ⟨g, 0, none⟩) n cap) xs) (hF : ¬ F g) (i : Nat) (x : α) (u v : Value)
    (hx : d.rel ((w.setCell ⟨g, i * 2, none⟩ u).setCell ⟨g, i * 2 + 1, none⟩ v) F x [u, v]) :
    Own d e ((w.setCell ⟨g, i * 2, none⟩ u).setCell ⟨g, i * 2 + 1, none⟩ v) base F (.slice (some ⟨g, 0, none⟩) n cap) (xs.set i x) := by
  have hn := h.len_eq
  obtain ⟨cs, ho, hr⟩ := h
  subst hn
  have h1 := (World.ownsRow.stored ho (i * 2) u).1
  have h2 := (World.ownsRow.stored h1 (i * 2 + 1) v).1
  refine ⟨_, by rw [List.length_set]; exact h2, rel_set2 (fun y c hy => ⟨(d.len hy).trans hd, ?_⟩) hx i hr⟩
  refine d.keep hy (fun k hk hl => ?_) (by simp)
  exact (Kept.set (F := F) v (p := ⟨g, i * 2 + 1, none⟩) hF k hk (by simpa using hl)).trans (Kept.set (F := F) u (p := ⟨g, i * 2, none⟩) hF k hk hl)

theorem Own.cells2 {α : Type} {d : Kind α} {e : Nat} {w : World} {base g n cap : Nat} {F : Nat → Prop} {xs : List α} (hd : d.sz = 2) (h : Own d e w base F (.slice (some ⟨g, 0, none⟩) n cap) xs) {i : Nat} (hi : i < n) :
    (∃ u, w.cell? ⟨g, i * 2, none⟩ = some u) ∧ ∃ u, w.cell? ⟨g, i * 2 + 1, none⟩ = some u := by
  have hn := h.len_eq
  obtain ⟨cs, ho, hr⟩ := h
  have hl := hr.length fun _ _ => d.len
  have hc := ho.cells (g := g) rfl
  have hz : ∀ j, j < cs.length → ∃ u, w.cell? ⟨g, j, none⟩ = some u := fun j hj => by
    refine ⟨cs[j], ?_⟩
    have := hc j cs[j] (List.getElem?_eq_getElem hj)
    rw [← this]
    unfold Addr.add; split <;> simp_all
  rw [hd] at hl
  exact ⟨hz _ (by omega), hz _ (by omega)⟩

/-! ### Slices of slices -/
/-- Where x[l:h:m] begins. -/
def cutA (A : Option Addr) (l m s : Nat) : Option Addr := if m = l then A else A.map (·.add (l * s))
section
variable {t e : TypeId} (ht : Tryz.prog.underlying t = some (.slice e)) {i : TypeInfo} (hi : Tryz.prog.info? e = some i)
include ht hi
theorem run_cut (A : Option Addr) (n c : Nat) (lo hi' mx : Option Value) {l h m : Nat} (hb : ∀ W, (Instr.sliceBounds true n c lo hi' mx).run Tryz.prog W = .ok (l, h, m) W) (W : World) :
    (Instr.slice t (.slice A n c) lo hi' mx).run Tryz.prog W = .ok (.slice (cutA A l m i.size) (h - l) (m - l)) W := by
  simp only [Instr.slice, Sem.run_bind, run_underlying ht, Result.andThen, hb]
  simp [sizeOf, typeInfo, hi, cutA]
theorem run_cut_l (A : Option Addr) (n c l : Nat) (h : l ≤ n) (W : World) :
    (Instr.slice t (.slice A n c) (some (.int .i64 (l : Int))) none none).run Tryz.prog W = .ok (.slice (cutA A l c i.size) (n - l) (c - l)) W :=
  run_cut ht hi A n c _ _ _ (fun W => by simp [Instr.sliceBounds, run_sliceBound, h]) W
theorem run_cut_h (A : Option Addr) (n c h : Nat) (h2 : h ≤ c) (W : World) :
    (Instr.slice t (.slice A n c) none (some (.int .i64 (h : Int))) none).run Tryz.prog W = .ok (.slice (cutA A 0 c i.size) h c) W := by
  have := run_cut ht hi A n c none (some (.int .i64 (h : Int))) none (l := 0) (h := h) (m := c) (fun W => by simp [Instr.sliceBounds, run_sliceBound, h2]) W
  simpa using this
theorem run_cut_lh (A : Option Addr) (n c l h : Nat) (h1 : l ≤ h) (h2 : h ≤ c) (W : World) :
    (Instr.slice t (.slice A n c) (some (.int .i64 (l : Int))) (some (.int .i64 (h : Int))) none).run Tryz.prog W = .ok (.slice (cutA A l c i.size) (h - l) (c - l)) W :=
  run_cut ht hi A n c _ _ _ (fun W => by simp [Instr.sliceBounds, run_sliceBound, h1, h2]) W
theorem run_cut_hm (A : Option Addr) (n c h m : Nat) (h1 : h ≤ m) (h2 : m ≤ c) (W : World) :
    (Instr.slice t (.slice A n c) none (some (.int .i64 (h : Int))) (some (.int .i64 (m : Int)))).run Tryz.prog W = .ok (.slice (cutA A 0 m i.size) h m) W := by
  have := run_cut ht hi A n c none (some (.int .i64 (h : Int))) (some (.int .i64 (m : Int))) (l := 0) (h := h) (m := m) (fun W => by simp [Instr.sliceBounds, run_sliceBound, h1, h2]) W
  simpa using this
theorem run_cut_lhm (A : Option Addr) (n c l h m : Nat) (h0 : l ≤ h) (h1 : h ≤ m) (h2 : m ≤ c) (W : World) :
    (Instr.slice t (.slice A n c) (some (.int .i64 (l : Int))) (some (.int .i64 (h : Int))) (some (.int .i64 (m : Int)))).run Tryz.prog W = .ok (.slice (cutA A l m i.size) (h - l) (m - l)) W :=
  run_cut ht hi A n c _ _ _ (fun W => by simp [Instr.sliceBounds, run_sliceBound, h0, h1, h2]) W
end
theorem SL.cut {α : Type} {d : Kind α} {w : World} {F : Nat → Prop} {A : Option Addr} {n c : Nat} {xs : List α} (hx : SL d w F (.slice A n c) xs) {l h m : Nat} (h0 : l ≤ h) (h1 : h ≤ xs.length) (h2 : h ≤ m) (h3 : m ≤ c) :
    SL d w F (.slice (cutA A l m d.sz) (h - l) (m - l)) ((xs.drop l).take (h - l)) := by
  obtain ⟨A1, c1, cs, e1, k1, k2, k3, k4⟩ := hx
  injection e1 with e1 e2 e3
  subst e1 e2 e3
  have hlen : ((xs.drop l).take (h - l)).length = h - l := by rw [List.length_take, List.length_drop]; omega
  refine ⟨cutA A l m d.sz, m - l, (cs.drop (l * d.sz)).take ((h - l) * d.sz), by rw [hlen], by rw [hlen]; omega, by omega, ?_, ((k4.drop (fun _ _ => d.len) l).take (fun _ _ => d.len) (h - l))⟩
  by_cases hml : m = l
  · have : h - l = 0 := by omega
    rw [this]
    simp only [Nat.zero_mul, List.take_zero]
    exact Cs.nil _ _ _
  · unfold cutA
    rw [if_neg hml]
    exact (k3.drop (l * d.sz)).take ((h - l) * d.sz)

section
variable {t e sz bytes : Nat} (he : Elem e sz bytes) (ht : Tryz.prog.underlying t = some (.slice e))
include he ht
theorem el_cut_l (A : Option Addr) (n c l : Nat) (h : l ≤ n) (W : World) :
    (Instr.slice t (.slice A n c) (some (.int .i64 (l : Int))) none none).run Tryz.prog W = .ok (.slice (cutA A l c sz) (n - l) (c - l)) W := by
  obtain ⟨i, z, hi, _, rfl, _⟩ := he.info
  exact run_cut_l ht hi A n c l h W
theorem el_cut_h (A : Option Addr) (n c h : Nat) (h2 : h ≤ c) (W : World) :
    (Instr.slice t (.slice A n c) none (some (.int .i64 (h : Int))) none).run Tryz.prog W = .ok (.slice (cutA A 0 c sz) h c) W := by
  obtain ⟨i, z, hi, _, rfl, _⟩ := he.info
  exact run_cut_h ht hi A n c h h2 W
theorem el_cut_lh (A : Option Addr) (n c l h : Nat) (h1 : l ≤ h) (h2 : h ≤ c) (W : World) :
    (Instr.slice t (.slice A n c) (some (.int .i64 (l : Int))) (some (.int .i64 (h : Int))) none).run Tryz.prog W = .ok (.slice (cutA A l c sz) (h - l) (c - l)) W := by
  obtain ⟨i, z, hi, _, rfl, _⟩ := he.info
  exact run_cut_lh ht hi A n c l h h1 h2 W
theorem el_cut_hm (A : Option Addr) (n c h m : Nat) (h1 : h ≤ m) (h2 : m ≤ c) (W : World) :
    (Instr.slice t (.slice A n c) none (some (.int .i64 (h : Int))) (some (.int .i64 (m : Int)))).run Tryz.prog W = .ok (.slice (cutA A 0 m sz) h m) W := by
  obtain ⟨i, z, hi, _, rfl, _⟩ := he.info
  exact run_cut_hm ht hi A n c h m h1 h2 W
theorem el_cut_lhm (A : Option Addr) (n c l h m : Nat) (h0 : l ≤ h) (h1 : h ≤ m) (h2 : m ≤ c) (W : World) :
    (Instr.slice t (.slice A n c) (some (.int .i64 (l : Int))) (some (.int .i64 (h : Int))) (some (.int .i64 (m : Int)))).run Tryz.prog W = .ok (.slice (cutA A l m sz) (h - l) (m - l)) W := by
  obtain ⟨i, z, hi, _, rfl, _⟩ := he.info
  exact run_cut_lhm ht hi A n c l h m h0 h1 h2 W
end

/-! ### append onto a full slice: a new row -/
theorem run_append_full {α : Type} (d : Kind α) {w : World} {e bytes : Nat} (he : Elem e d.sz bytes) (t ty : TypeId) (ht : Tryz.prog.underlying t = some (.slice e))
    {F G H : Nat → Prop} {a : Addr} {A : Option Addr} {n m c : Nat} {xs ys : List α} (hn : n = xs.length) (hx : SL d w F (.slice (some a) n n) xs) (hy : SL d w G (.slice A m c) ys) (hx0 : 0 < n) (hm : 0 < m)
    (hF : ∀ w', Below w.heap.size w w' → ∀ x cs, d.rel w F x cs → d.rel w' H x cs) (hG : ∀ w', Below w.heap.size w w' → ∀ x cs, d.rel w G x cs → d.rel w' H x cs)
    (h63 : xs.length + ys.length ≤ maxLen) (hbytes : (xs.length + ys.length) * bytes ≤ 140737488355328) :
    ∃ v' w', (Builtin.append_ #[t, t] ty #[.slice (some a) n n, .slice A m c]).run Tryz.prog w = .ok v' w' ∧ Own d e w' w.heap.size H v' (xs ++ ys) ∧ Below w.heap.size w w' := by
  subst hn
  obtain ⟨i, z, hi, hz, hs, hb, hzs⟩ := he.info
  obtain ⟨A1, c1, cs1, e1, h1, h2, h3, h4⟩ := hx
  obtain ⟨A2, c2, cs2, e2, k1, k2, k3, k4⟩ := hy
  injection e1 with e1 _ e1c
  injection e2 with e2 em e2c
  subst e1 e2 e1c e2c em
  have l1 := h4.length fun _ _ => d.len
  have l2 := k4.length fun _ _ => d.len
  have p1 : 0 < cs1.length := by rw [l1]; exact Nat.mul_pos hx0 d.pos
  have p2 : 0 < cs2.length := by rw [l2]; exact Nat.mul_pos hm d.pos
  obtain ⟨a1, ea1, _, _, hc1⟩ := h3 p1
  obtain ⟨a2, ea2, _, _, hc2⟩ := k3 p2
  subst ea2
  injection ea1 with ea1
  subst ea1
  have hfit : Builtin.nextslicecap (xs.length + ys.length) xs.length * i.bytes ≤ 281474976710656 := by
    rw [hb]
    have h1 : Builtin.nextslicecap (xs.length + ys.length) xs.length ≤ 2 * (xs.length + ys.length) := nextslicecap_le (by omega)
    calc _ ≤ (2 * (xs.length + ys.length)) * bytes := Nat.mul_le_mul_right _ h1
      _ = 2 * ((xs.length + ys.length) * bytes) := by rw [Nat.mul_assoc]
      _ ≤ _ := by omega
  have hrun := run_append_grow (P := Tryz.prog) w t ty e i z ht hi hz a xs.length xs.length cs1 (by rw [l1, hs]) hc1 a2 ys.length c cs2 (by rw [l2, hs]) hc2 (by omega) (by unfold maxLen at h63; omega) hfit
  refine ⟨_, _, hrun, ?_, (Below.refl _ _).drew.alloc (Nat.le_refl _) _⟩
  have hge := grownCap_ge w (xs.length + ys.length) xs.length e
  have hbel : Below w.heap.size w (w.drew.alloc (.cells (cs1.toArray ++ cs2.toArray ++ Builtin.zeroCells z.cells (grownCap w (xs.length + ys.length) xs.length e - (xs.length + ys.length))) e)) := (Below.refl _ _).drew.alloc (Nat.le_refl _) _
  refine ⟨cs1 ++ cs2, ⟨by rw [List.length_append, List.length_append, l1, l2, Nat.add_mul], .inr ⟨w.heap.size, _, _, by rw [List.length_append], Nat.le_refl _, heap_alloc_new w.drew _, by rw [List.length_append]; exact hge, grownCap_le_maxLen _ _ _ _ h63, ?_, ?_⟩⟩, (h4.mono (hF _ hbel)).append (k4.mono (hG _ hbel))⟩
  · simp only [Array.size_append, List.size_toArray, size_zeroCells, hzs, l1, l2, ← Nat.add_mul]
    rw [show xs.length + ys.length + (grownCap w (xs.length + ys.length) xs.length e - (xs.length + ys.length)) = grownCap w (xs.length + ys.length) xs.length e by omega]
  · have hl : (xs ++ ys).length * d.sz = (cs1 ++ cs2).length := by rw [List.length_append, List.length_append, l1, l2, Nat.add_mul]
    rw [hl]
    simp only [Array.toList_append]
    exact List.take_left
theorem wpList_append_full {α : Type} (d : Kind α) {ops : Array Oper} {rest : List Oper} {o : Oper} {a : Act} {w : World} {Q : Exit → Act → World → Prop} {e bytes : Nat} (he : Elem e d.sz bytes) (hgd : o.guard = none) (s x : Operand) (t : TypeId)
    (ho : o.op = .call { callee := .builtin .append, args := #[s, x], argTypes := #[t, t] }) (ht : Tryz.prog.underlying t = some (.slice e))
    {F G H : Nat → Prop} {ad : Addr} {n : Nat} {xs ys : List α} (hn : n = xs.length) (hs : a.eval s = .slice (some ad) n n) (hx : SL d w F (.slice (some ad) n n) xs) {A : Option Addr} {m c : Nat} (hxe : a.eval x = .slice A m c) (hy : SL d w G (.slice A m c) ys) (hx0 : 0 < n) (hm : 0 < m)
    (hF : ∀ w', Below w.heap.size w w' → ∀ x cs, d.rel w F x cs → d.rel w' H x cs) (hG : ∀ w', Below w.heap.size w w' → ∀ x cs, d.rel w G x cs → d.rel w' H x cs)
    (h63 : xs.length + ys.length ≤ maxLen) (hbytes : (xs.length + ys.length) * bytes ≤ 140737488355328)
    (h : ∀ v' w', Own d e w' w.heap.size H v' (xs ++ ys) → Below w.heap.size w w' → wpList Tryz.prog ops Q rest (a.put o.dst v') w') : wpList Tryz.prog ops Q (o :: rest) a w :=
  wpList_plain hgd fun _ hK => by
    obtain ⟨v', w', hrun, hA, hB⟩ := run_append_full d he t o.type ht hn hx hy hx0 hm hF hG h63 hbytes
    unfold Oper.wp execOp
    simp only [ho, resolve, invoke, builtin, Sem.run_bind, Sem.run_pure, Result.andThen_ok, List.map_toArray, List.map_cons, List.map_nil, hs, hxe, hrun]
    exact hK _ _ (h v' w' hA hB)
theorem flatB {α : Type} {sz : Nat} {hp : 0 < sz} {enc : α → List Value} {ok : α → Prop} {hl : ∀ x, (enc x).length = sz} {h1 : ∀ x, ∀ u ∈ enc x, u.oneCell' = true} {w : World} {F G : Nat → Prop} :
    ∀ w', Below w.heap.size w w' → ∀ x cs, (flat sz hp enc ok hl h1).rel w F x cs → (flat sz hp enc ok hl h1).rel w' G x cs := fun _ _ _ _ h => h

/-! ### Regions that draw their order, by hand: the operations named by their place -/
theorem wpAnyH_take1 {P : Program} {ops : Array Oper} {Q : Exit → Act → World → Prop} {md : Region.Mode} {S : World → Prop} {rest : List Oper} (i : Nat) {oi : Oper} {v : Value} {fuel : Nat} {listed : Array Bool} {a : Act} {w : World} (hi : ops.toList.drop i = oi :: rest)
    (hs : Region.noSelect ops = true) (hf : Region.free md ops listed i = true) (hr : (Region.ready md ops listed).contains i = true)
    (hQ : ∀ c a w, Q (.panic c) (a.put oi.dst v) w → Q (.panic c) a w) (hw : Region.wanted oi (yielded ops a.tmps) = true) (hy : ∀ w, S w → (execOp a.eval oi).run P w = .ok (.value v) w) (hS : S w)
    (h : wpAnyH P md ops Q S fuel (listed.setIfInBounds i true) (a.put oi.dst v) w) : wpAnyH P md ops Q S (fuel + 1) listed a w :=
  wpAnyH_take (i := i) (oi := oi) (by
    have : (ops.toList.drop i)[0]? = some oi := by rw [hi]; rfl
    rw [List.getElem?_drop] at this
    simpa using this) hs hf hr hQ (.inl ⟨hw, hy⟩) hS h
theorem AllReadyH.cons1 {P : Program} {ops : Array Oper} {Q : Exit → Act → World → Prop} {md : Region.Mode} {S : World → Prop} {rest : List Oper} {fuel : Nat} {listed : Array Bool} {a : Act} {w : World} {i : Nat} {o : Oper} {rs : List Nat} (ho : ops.toList.drop i = o :: rest)
    (hw : Region.wanted o (yielded ops a.tmps) = true)
    (h : ∀ K' : Act → World → Prop, Shut (∀ a w, S w → (S w → wpAnyH P md ops Q S fuel (listed.setIfInBounds i true) a w) → K' a w) → Oper.wp P o a w K' Q)
    (hs : AllReadyH P md ops Q S fuel listed a w rs) : AllReadyH P md ops Q S fuel listed a w (i :: rs) :=
  AllReadyH.cons (by
    have : (ops.toList.drop i)[0]? = some o := by rw [ho]; rfl
    rw [List.getElem?_drop] at this
    simpa using this) (fun K hK => by rw [if_pos hw]; exact h K hK) hs
theorem wp_append_sl {α : Type} (d : Kind α) {o : Oper} {a : Act} {w : World} {K : Act → World → Prop} {Q : Exit → Act → World → Prop} {base e bytes : Nat} (he : Elem e d.sz bytes) (s x : Operand) (t : TypeId)
    (ho : o.op = .call { callee := .builtin .append, args := #[s, x], argTypes := #[t, t] }) (ht : Tryz.prog.underlying t = some (.slice e))
    {F G : Nat → Prop} {v : Value} {xs ys : List α} (hs : a.eval s = v) (hown : Own d e w base F v xs) {A : Option Addr} {m c : Nat} (hx : a.eval x = .slice A m c) (hsl : SL d w G (.slice A m c) ys)
    (hF : ∀ w', w.grownBy w' v.ownBlock → ∀ x cs, d.rel w F x cs → d.rel w' F x cs) (hG : ∀ w', w.grownBy w' v.ownBlock → ∀ x cs, d.rel w G x cs → d.rel w' F x cs)
    (h63 : xs.length + ys.length ≤ maxLen) (hbytes : (xs.length + ys.length) * bytes ≤ 140737488355328) (hbase : base ≤ w.heap.size)
    (h : ∀ v' w', Appended d e base F w v (xs ++ ys) v' w' → K (a.put o.dst v') w') : Oper.wp Tryz.prog o a w K Q := by
  obtain ⟨v', w', hrun, hA⟩ := run_append_own_sl d he t o.type ht hown hsl hF hG h63 hbytes hbase
  unfold Oper.wp execOp
  simp only [ho, resolve, invoke, builtin, Sem.run_bind, Sem.run_pure, Result.andThen_ok, List.map_toArray, List.map_cons, List.map_nil, hs, hx, hrun]
  exact h v' w' hA
end Go.Proofs.YtlhdndnohmikeaaGreatDoor
