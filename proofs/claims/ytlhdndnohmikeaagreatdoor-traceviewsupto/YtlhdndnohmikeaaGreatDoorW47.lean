/-
  Walks: Run, where nothing is wrong.
-/
import Derived.Test.YtlhdndnohmikeaaGreatDoorMW44
import Derived.Defers
import Derived.Recover
import Derived.Shelf.RegionOpenPlain
set_option linter.unusedVariables false
set_option linter.unusedSimpArgs false
namespace Go.Proofs.YtlhdndnohmikeaaGreatDoor
open Go.RowKit

theorem run1_idle (rp at' e R : Nat) (w : World) (h : w.cell? ⟨rp, 0, none⟩ = some (.pointer (some ⟨R, 0, none⟩))) (hc : w.cell? ⟨R, 2, none⟩ = some (.bool true)) (hf : w.frozen? ⟨R, 2, none⟩ = false) :
    CallsD Tryz.prog 166 #[.pointer (some ⟨rp, 0, none⟩), .pointer (some ⟨at', 0, none⟩), .pointer (some ⟨e, 0, none⟩)] .returning w fun e u' w' => e = .returned (.tuple #[]) ∧ u' = .returning ∧ w' = w.setCell ⟨R, 2, none⟩ (.bool false) := by
  refine callsD_of_wpS Tryz.func166 rfl fun c₀ cs hu => ?_
  apply wpS_seq
  apply wpS_region
  simp [wpOpsS, go_sem, recoverD, hu, Tryz.ntmps166, Exit.thenS, h, hc, hf]
  apply wpS_seq
  apply wpS_region
  simp [wpOpsS, go_sem, recoverD, hu, Exit.thenS]
  rw [show (Array.replicate 24 undef : Array Value) = #[undef, undef, undef, undef, undef, undef, undef, undef, undef, undef, undef, undef, undef, undef, undef, undef, undef, undef, undef, undef, undef, undef, undef, undef] from rfl]
  simp only [List.setIfInBounds_toArray, List.set_cons_zero, List.set_cons_succ, List.append_toArray, List.cons_append, List.nil_append]
  refine wpS_of_wp ?_
  go_wp2
  cases c₀
  simp_all [bodyPostS, results, Tryz.results166]
theorem cell_new_at (W : World) (vs : Array Value) (t : TypeId) (o n : Nat) (v : Value) (hn : W.heap.size = n) (h : vs[o]? = some v) : (W.alloc (.cells vs t)).cell? ⟨n, o, none⟩ = some v := by
  subst hn
  have hh : (W.alloc (.cells vs t)).heap[W.heap.size]? = some (.cells vs t (0, 0)) := heap_alloc_new W _
  rw [cell_of_row _ _ _ _ _ _ hh]
  exact h
theorem froz_al {W : World} {b o : Nat} (hb : b < W.heap.size) (h : W.frozen? ⟨b, o, none⟩ = false) (ob : Obj) : (W.alloc ob).frozen? ⟨b, o, none⟩ = false :=
  froz_by (bel_alloc (Below.refl _ _) ob) hb h
theorem froz_new_at (W : World) (vs : Array Value) (t : TypeId) (o n : Nat) (hn : W.heap.size = n) : (W.alloc (.cells vs t)).frozen? ⟨n, o, none⟩ = false := by
  subst hn
  have hh : (W.alloc (.cells vs t)).heap[W.heap.size]? = some (.cells vs t (0, 0)) := heap_alloc_new W _
  unfold World.frozen?
  rw [show (⟨W.heap.size, o, none⟩ : Addr).block = W.heap.size from rfl, hh]
  simp
/-- Nothing was written but the blocks of M and what is new. -/
structure Only (M : Nat → Prop) (w w' : World) : Prop where
  os : w'.os = w.os
  tape : w'.tape = w.tape
  output : w'.output = w.output
  size : w.heap.size ≤ w'.heap.size
  block : ∀ k, k < w.heap.size → ¬ M k → w'.heap[k]? = w.heap[k]?
section
variable {M N : Nat → Prop} {w w' w'' : World}
theorem Only.refl (M : Nat → Prop) (w : World) : Only M w w := ⟨rfl, rfl, rfl, Nat.le_refl _, fun _ _ _ => rfl⟩
theorem Only.tr (h : Only M w w') (k : Only M w' w'') : Only M w w'' := ⟨k.os.trans h.os, k.tape.trans h.tape, k.output.trans h.output, Nat.le_trans h.size k.size, fun j hj hn => (k.block j (Nat.lt_of_lt_of_le hj h.size) hn).trans (h.block j hj hn)⟩
theorem Only.mono (h : Only M w w') (hM : ∀ k, k < w.heap.size → M k → N k) : Only N w w' := ⟨h.os, h.tape, h.output, h.size, fun k hk hn => h.block k hk fun hm => hn (hM k hk hm)⟩
theorem Only.of_below (h : Below w.heap.size w w') : Only M w w' := ⟨h.os, h.tape, h.output, h.size, fun k hk _ => h.block k hk⟩
theorem Only.of_grown {b : Nat} (h : w.grownBy w' (some b)) (hb : M b) : Only M w w' := ⟨h.os, h.tape, h.output, h.size, fun k hk hn => h.block k hk fun e => by injection e with e; subst e; exact hn hb⟩
theorem Only.of_row {row : Option Nat} (h : w.grownBy w' row) (hb : ∀ k, row = some k → M k) : Only M w w' := ⟨h.os, h.tape, h.output, h.size, fun k hk hn => h.block k hk fun e => hn (hb k e.symm)⟩
theorem Only.alloc (M : Nat → Prop) (w : World) (o : Obj) : Only M w (w.alloc o) := .of_below (bel_alloc (Below.refl _ _) o)
theorem Only.set {p : Addr} (u : Value) (h : M p.block) : Only M w (w.setCell p u) := ⟨rfl, rfl, rfl, by simp, fun k _ hn => Below.heap_setCell w p u k fun e => hn (by rw [e]; exact h)⟩
theorem Only.drewN (M : Nat → Prop) (w : World) (n : Nat) : Only M w (w.drewN n) := .of_below (bel_drewN (Below.refl _ _) n)
theorem Only.kept (h : Only M w w') {F : Nat → Prop} (hF : ∀ k, F k → ¬ M k) : Kept F w w' := fun k hk hl => h.block k hl (hF k hk)
theorem Only.below (h : Only M w w') (hM : ∀ k, M k → w.heap.size ≤ k) : Below w.heap.size w w' := ⟨h.os, h.tape, h.output, h.size, fun k hk => h.block k hk fun hm => by have := hM k hm; omega⟩
/-- What was written above the beginning's size doesn't count. -/
theorem Only.cut (h : Only M w w') (k : Only N w' w'') (hN : ∀ j, j < w.heap.size → N j → M j) : Only M w w'' :=
  ⟨k.os.trans h.os, k.tape.trans h.tape, k.output.trans h.output, Nat.le_trans h.size k.size, fun j hj hn => (k.block j (Nat.lt_of_lt_of_le hj h.size) fun hm => hn (hN j hj hm)).trans (h.block j hj hn)⟩
end
/-- What is asked of a function that reads: from the reader at the beginning to the reader at the end. -/
def Reads (f : FuncId) (cap : Array Value) (bs : List UInt8) (M : Nat → Prop) (Post : World → Prop) (w : World) : Prop :=
  ∀ (W : World) (R : Nat) (F : Nat → Prop), Below w.heap.size w W → w.heap.size + 2 = R → W.heap.size = w.heap.size + 4 → Rd W R F bs 0 → (∀ k, F k → k < w.heap.size ∧ ¬ M k) →
    Calls Tryz.prog f (#[.pointer (some ⟨R, 0, none⟩)] ++ cap) W fun e W' => e = .returned (.tuple #[]) ∧ Rd W' R F bs bs.length ∧ Only (fun k => k = R ∨ M k) W W' ∧ Post W'
def RunPost (bs : List UInt8) (M : Nat → Prop) (Post : World → Prop) (w : World) (e : Ending) (w' : World) : Prop :=
  e = .returned (.tuple #[.int .i64 (bs.length : Int), .int .i64 0]) ∧ Only M w w' ∧ Post w'
set_option maxRecDepth 100000 in
set_option maxHeartbeats 2000000 in
theorem run_calls (f : FuncId) (cap : Array Value) (bs : List UInt8) (v : Value) (w : World) (F M : Nat → Prop) (Post : World → Prop) (hf : ∀ args W, (callFunc f args).run Tryz.prog W = .ok (.enter f args) W) (hv : SL byteK w F v bs)
    (hM : ∀ k, M k → k < w.heap.size) (hFM : ∀ k, F k → ¬ M k) (hr : Reads f cap bs M Post w)
    (hpost : ∀ W1 W2, Post W1 → w.heap.size + 4 ≤ W1.heap.size → Kept (fun k => k < w.heap.size ∨ w.heap.size + 4 ≤ k) W1 W2 → W1.heap.size ≤ W2.heap.size → Post W2) :
    Calls Tryz.prog 129 #[v, .func (.func f) #[] cap] w (RunPost bs M Post w) := by
  obtain ⟨A, c, rfl, _, _⟩ := hv.form
  have hmf : ∀ (fn : Fn) (first cap : Array Value) (w : World), (Instr.makeFunc fn first cap).run Tryz.prog w = .ok (.func fn first cap) w := fun _ _ _ _ => rfl
  have hnf : ∀ (fn : Fn) (first cap : Array Value) (W : World), (binOp .eql 209 (.func fn first cap) .nilFunc).run Tryz.prog W = .ok (.bool false) W := fun _ _ _ W => rfl
  go_enter_defers Tryz.func129, Tryz.ntmps129
  go_wp2_with fail
  have hbw : Below w.heap.size w ((((w.alloc (.cells #[.int .i64 0] 3)).alloc (.cells #[.int .i64 0] 27)).alloc (.cells #[.slice A bs.length c, .int .i64 0, .bool true] 246)).alloc (.cells #[.pointer (some ⟨w.heap.size + 1 + 1, 0, none⟩)] 205)) := bel_alloc (bel_alloc (bel_alloc (bel_alloc (Below.refl _ _) _) _) _) _
  generalize hWe : ((((w.alloc (.cells #[.int .i64 0] 3)).alloc (.cells #[.int .i64 0] 27)).alloc (.cells #[.slice A bs.length c, .int .i64 0, .bool true] 246)).alloc (.cells #[.pointer (some ⟨w.heap.size + 1 + 1, 0, none⟩)] 205)) = W at *
  have hsz : W.heap.size = w.heap.size + 4 := by rw [← hWe]; simp
  have k0 : W.cell? ⟨w.heap.size, 0, none⟩ = some (.int .i64 0) := by
    rw [← hWe]; exact cell_al (cell_al (cell_al (cell_new_at w _ _ _ _ _ rfl rfl) _) _) _
  have k1 : W.cell? ⟨w.heap.size + 1, 0, none⟩ = some (.int .i64 0) := by
    rw [← hWe]; exact cell_al (cell_al (cell_new_at _ _ _ _ _ _ (by simp) rfl) _) _
  have k3 : W.cell? ⟨w.heap.size + 1 + 1 + 1, 0, none⟩ = some (.pointer (some ⟨w.heap.size + 1 + 1, 0, none⟩)) := by
    rw [← hWe]; exact cell_new_at _ _ _ _ _ _ (by simp) rfl
  have r0 : W.cell? ⟨w.heap.size + 1 + 1, 0, none⟩ = some (.slice A bs.length c) := by
    rw [← hWe]; exact cell_al (cell_new_at _ _ _ _ _ _ (by simp) rfl) _
  have r1 : W.cell? ⟨w.heap.size + 1 + 1, 1, none⟩ = some (.int .i64 0) := by
    rw [← hWe]; exact cell_al (cell_new_at _ _ _ _ _ _ (by simp) rfl) _
  have r2 : W.cell? ⟨w.heap.size + 1 + 1, 2, none⟩ = some (.bool true) := by
    rw [← hWe]; exact cell_al (cell_new_at _ _ _ _ _ _ (by simp) rfl) _
  have z0 : ∀ o, W.frozen? ⟨w.heap.size, o, none⟩ = false := fun o => by
    rw [← hWe]; exact froz_al (by simp <;> omega) (froz_al (by simp <;> omega) (froz_al (by simp) (froz_new_at w _ _ _ _ rfl) _) _) _
  have z1 : ∀ o, W.frozen? ⟨w.heap.size + 1, o, none⟩ = false := fun o => by
    rw [← hWe]; exact froz_al (by simp <;> omega) (froz_al (by simp) (froz_new_at _ _ _ _ _ (by simp)) _) _
  have z2 : ∀ o, W.frozen? ⟨w.heap.size + 1 + 1, o, none⟩ = false := fun o => by
    rw [← hWe]; exact froz_al (by simp) (froz_new_at _ _ _ _ _ (by simp)) _
  clear hWe
  have hrd : Rd W (w.heap.size + 1 + 1) (fun k => F k ∧ k < w.heap.size) bs 0 := ⟨⟨_, r0, hv.since hbw⟩, r1, r2, z2, fun h => by omega, Nat.zero_le _⟩
  refine (hr W _ _ hbw rfl hsz hrd (fun k h => ⟨h.2, hFM k h.1⟩)).mono ?_
  rintro e w1 ⟨rfl, hrd1, ho1, hp1⟩
  have hne : ∀ k, w.heap.size ≤ k → k ≠ w.heap.size + 1 + 1 → ¬ (k = w.heap.size + 1 + 1 ∨ M k) := fun k h1 h2 h => h.elim h2 fun h => by have := hM k h; omega
  have kc : ∀ b o v, w.heap.size ≤ b → b < w.heap.size + 4 → b ≠ w.heap.size + 1 + 1 → W.cell? ⟨b, o, none⟩ = some v → w1.cell? ⟨b, o, none⟩ = some v := fun b o v h1 h2 h3 h4 => (World.cell?_of_block (w := W) (a := ⟨b, o, none⟩) (ho1.block b (by omega) (hne b h1 h3))).trans h4
  have kf : ∀ b o, w.heap.size ≤ b → b < w.heap.size + 4 → b ≠ w.heap.size + 1 + 1 → W.frozen? ⟨b, o, none⟩ = false → w1.frozen? ⟨b, o, none⟩ = false := fun b o h1 h2 h3 h4 => (World.frozen?_of_block (w := W) (a := ⟨b, o, none⟩) (ho1.block b (by omega) (hne b h1 h3))).trans h4
  have j0 := kc w.heap.size 0 _ (by omega) (by omega) (by omega) k0
  have j1 := kc (w.heap.size + 1) 0 _ (by omega) (by omega) (by omega) k1
  have j3 := kc (w.heap.size + 1 + 1 + 1) 0 _ (by omega) (by omega) (by omega) k3
  have f0 := kf w.heap.size 0 (by omega) (by omega) (by omega) (z0 _)
  have f1 := kf (w.heap.size + 1) 0 (by omega) (by omega) (by omega) (z1 _)
  have hz1 := ho1.size
  have HP := Lib.hid (And.intro hrd1 (And.intro ho1 (And.intro hp1 (And.intro hbw (And.intro hsz (And.intro hM hpost))))))
  have c1 := hrd1.c1
  clear hrd hrd1 ho1 hp1 hr hpost k0 k1 k3 r0 r1 r2 z0 z1 z2 hne kc kf
  have mx := mixed
  go_wp2
  go_big_region_o
  obtain ⟨hrd1, ho1, hp1, hbw, hsz, hM, hpost⟩ := HP.out
  generalize hW2 : ((w1.setCell ⟨w.heap.size, 0, none⟩ (.int .i64 (bs.length : Int))).setCell ⟨w.heap.size + 1, 0, none⟩ (.int .i64 0)).drew = w2
  have e3 : w2.cell? ⟨w.heap.size + 1 + 1 + 1, 0, none⟩ = some (.pointer (some ⟨w.heap.size + 1 + 1, 0, none⟩)) := by
    rw [← hW2]; exact (World.cell?_setCell_other _ _ _ _ (by simp)).trans ((World.cell?_setCell_other _ _ _ _ (by simp <;> omega)).trans j3)
  have e2 : w2.cell? ⟨w.heap.size + 1 + 1, 2, none⟩ = some (.bool true) := by
    rw [← hW2]; exact (World.cell?_setCell_other _ _ _ _ (by simp)).trans ((World.cell?_setCell_other _ _ _ _ (by simp <;> omega)).trans hrd1.c2)
  have z2 : w2.frozen? ⟨w.heap.size + 1 + 1, 2, none⟩ = false := by
    rw [← hW2]
    show ((w1.setCell ⟨w.heap.size, 0, none⟩ (.int .i64 (bs.length : Int))).setCell ⟨w.heap.size + 1, 0, none⟩ (.int .i64 0)).frozen? _ = false
    rw [World.frozen?_setCell, World.frozen?_setCell]; exact hrd1.fr 2
  have e0 : w2.cell? ⟨w.heap.size, 0, none⟩ = some (.int .i64 (bs.length : Int)) := by
    rw [← hW2]; exact (World.cell?_setCell_other _ _ _ _ (by simp)).trans (cell_set_on j0)
  have e1 : w2.cell? ⟨w.heap.size + 1, 0, none⟩ = some (.int .i64 0) := by
    rw [← hW2]; exact cell_set_on ((World.cell?_setCell_other _ _ _ _ (by simp)).trans j1)
  have hk2 : Only (fun k => w.heap.size ≤ k ∧ k < w.heap.size + 4) w1 w2 := by
    rw [← hW2]
    exact ((Only.set (p := ⟨w.heap.size, 0, none⟩) _ (by simp)).tr (Only.set (p := ⟨w.heap.size + 1, 0, none⟩) _ (by simp <;> omega))).tr (Only.drewN _ _ 1)
  clear hW2
  go_wp2
  refine leaves_cons (f := 166) (args := #[.pointer (some ⟨w.heap.size + 1 + 1 + 1, 0, none⟩), .pointer (some ⟨w.heap.size, 0, none⟩), .pointer (some ⟨w.heap.size + 1, 0, none⟩)]) (by simp) (by simp [go_sem]) ?_
  refine (run1_idle _ _ _ _ w2 e3 e2 z2).mono ?_
  rintro e u' w'' ⟨rfl, rfl, rfl⟩
  have q0 := (World.cell?_setCell_other w2 ⟨w.heap.size + 1 + 1, 2, none⟩ ⟨w.heap.size, 0, none⟩ (.bool false) (by simp)).trans e0
  have q1 := (World.cell?_setCell_other w2 ⟨w.heap.size + 1 + 1, 2, none⟩ ⟨w.heap.size + 1, 0, none⟩ (.bool false) (by simp)).trans e1
  simp [Leaves, settle, results, Tryz.results129, go_sem, q0, q1]
  have hk3 : Only (fun k => w.heap.size ≤ k ∧ k < w.heap.size + 4) w1 (w2.setCell ⟨w.heap.size + 1 + 1, 2, none⟩ (.bool false)) := hk2.tr (Only.set (p := ⟨w.heap.size + 1 + 1, 2, none⟩) _ (by simp <;> omega))
  refine ⟨rfl, ?_, hpost w1 _ hp1 (by have := ho1.size; omega) (hk3.kept fun k h => by omega) hk3.size⟩
  exact (((Only.of_below hbw).cut ho1 fun j hj h => h.elim (fun e => absurd e (by omega)) id).cut hk3 fun j hj h => absurd h.1 (by omega))
end Go.Proofs.YtlhdndnohmikeaaGreatDoor
