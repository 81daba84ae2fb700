/-
  Walks: the order of two rows (a range over a function).
-/
import Derived.Test.YtlhdndnohmikeaaGreatDoorW7
import Derived.RangeFuncNested
import Derived.RangeFuncBound
import Derived.RangeFuncCalls
import Derived.RangeFuncLeaves
import Derived.RangeFuncFrom
import Derived.Shelf.Abstract
import Derived.Shelf.RegionOpen
import Derived.OwnWalkIn
import Derived.TacticsInMore
import Derived.LoopNIn
import Derived.LoopIn
set_option linter.unusedVariables false
set_option linter.unusedSimpArgs false
namespace Go.Proofs.YtlhdndnohmikeaaGreatDoor
open Go.RowKit Go.Shelf
attribute [local go_sem] Oper.semAt_some
theorem orders_calls (A B C : Option Addr) (n1 n2 n3 c1 c2 c3 : Nat) (w : World) :
    Calls Tryz.prog 121 #[.slice A n1 c1, .slice B n2 c2, .slice C n3 c3] w fun e w' => e = .returned (.func (.func 159) #[] #[.pointer (some ⟨w.heap.size, 0, none⟩), .pointer (some ⟨w.heap.size + 1, 0, none⟩), .pointer (some ⟨w.heap.size + 1 + 1, 0, none⟩)]) ∧
      w' = ((w.alloc (.cells #[.slice A n1 c1] 22)).alloc (.cells #[.slice B n2 c2] 92)).alloc (.cells #[.slice C n3 c3] 92) := by
  go_enter Tryz.func121, Tryz.ntmps121
  go_wp2
  go_ret
  exact ⟨rfl, rfl⟩

def ordersOf : List Col → List Cell → List Cell → List Int
  | c :: cs, x :: xs, y :: ys => cellCompare c.kind x y :: ordersOf cs xs ys
  | _, _, _ => []
theorem ordersOf_length : ∀ (s : List Col) (a b : List Cell), a.length = s.length → b.length = s.length → (ordersOf s a b).length = s.length
  | [], _, _, _, _ => rfl
  | c :: cs, x :: xs, y :: ys, h1, h2 => by simp only [ordersOf, List.length_cons]; rw [ordersOf_length cs xs ys (by simpa using h1) (by simpa using h2)]
  | c :: cs, [], _, h1, _ => by simp at h1
  | c :: cs, x :: xs, [], _, h2 => by simp at h2
theorem ordersOf_get : ∀ (s : List Col) (a b : List Cell) (k : Nat) (hs : k < s.length) (ha : k < a.length) (hb : k < b.length) (h : k < (ordersOf s a b).length), (ordersOf s a b)[k] = cellCompare s[k].kind a[k] b[k]
  | [], _, _, k, hs, _, _, _ => by simp at hs
  | c :: cs, [], _, k, _, ha, _, _ => by simp at ha
  | c :: cs, x :: xs, [], k, _, _, hb, _ => by simp at hb
  | c :: cs, x :: xs, y :: ys, 0, _, _, _, _ => rfl
  | c :: cs, x :: xs, y :: ys, k + 1, hs, ha, hb, h => by
    simp only [ordersOf, List.getElem_cons_succ]
    exact ordersOf_get cs xs ys k _ _ _ _

/-- The blocks of F lie as they lay. -/
def Held (F : Nat → Prop) (w w' : World) : Prop := w.heap.size ≤ w'.heap.size ∧ Kept F w w'
theorem Held.refl (F : Nat → Prop) (w : World) : Held F w w := ⟨Nat.le_refl _, Kept.refl _ _⟩
theorem Held.trans {F : Nat → Prop} {a b c : World} (h : Held F a b) (k : Held F b c) : Held F a c := ⟨Nat.le_trans h.1 k.1, fun i hi hl => (k.2 i hi (Nat.lt_of_lt_of_le hl h.1)).trans (h.2 i hi hl)⟩
theorem Held.of_below {F : Nat → Prop} {w w' : World} (h : Below w.heap.size w w') : Held F w w' := ⟨h.size, Kept.of_below h⟩
theorem Held.cell {F : Nat → Prop} {w w' : World} (h : Held F w w') {b o : Nat} (hb : F b) (hl : b < w.heap.size) : w'.cell? ⟨b, o, none⟩ = w.cell? ⟨b, o, none⟩ := by
  have := h.2 b hb hl
  simp [World.cell?, this]
theorem Held.put {F : Nat → Prop} {w : World} (l : Nat) (o : Obj) (h : ¬ F l) : Held F w (w.putObj l o) :=
  ⟨by simp [World.putObj], fun k hk hl => by
    have hne : l ≠ k := fun e => h (e ▸ hk)
    simp [World.putObj, Array.getElem?_setIfInBounds_ne hne]⟩
/-- What a round says: whether to go on. -/
def Told (J Jx : List Int → World → Prop) (F : Nat → Prop) (pre : List Int) (W1 : World) (bv : Bool) (W' : World) : Prop := (bv = true → J pre W' ∧ Held F W1 W') ∧ (bv = false → Jx pre W')
set_option maxRecDepth 100000 in
set_option maxHeartbeats 2000000 in
theorem orders1_in (n : Nat) (hn : 3 ≤ n) (l B0 B1 B2 : Nat) (F : Nat → Prop) (s : List Col) (a b : List Cell) (vs va vb : Value) (J Jx : List Int → World → Prop) (hla : a.length = s.length) (hlb : b.length = s.length)
    (hY : ∀ pre x W, J pre W → pre.length < s.length → YieldAt Fence.wide (n - 1) Tryz.prog l #[.int .i64 x] W fun e W' => (e = .returned (.bool true) ∧ J (pre ++ [x]) W' ∧ Held F W W') ∨ (e = .returned (.bool false) ∧ Jx (pre ++ [x]) W'))
    (W : World) (hJ : AbidesFrom W.heap.size J) (hG : Glob W) (hGn : ∀ W', Held F W W' → Glob W') (hB0 : F B0) (hB1 : F B1) (hB2 : F B2) (h0 : W.cell? ⟨B0, 0, none⟩ = some vs) (h1 : W.cell? ⟨B1, 0, none⟩ = some va) (h2 : W.cell? ⟨B2, 0, none⟩ = some vb)
    (hs : SL colK W F vs s) (ha : SL cellK W F va a) (hb : SL cellK W F vb b) (hj : J [] W) :
    CallsIn Fence.wide n Tryz.prog 159 #[.func (.yield l) #[] #[], .pointer (some ⟨B0, 0, none⟩), .pointer (some ⟨B1, 0, none⟩), .pointer (some ⟨B2, 0, none⟩)] W fun e W' => (∃ v, e = .returned v) ∧
      ((∃ ys, ys = ordersOf s a b ∧ J ys W') ∨ (∃ pre, (∃ k, pre = (ordersOf s a b).take k) ∧ Jx pre W')) := by
  have hl := hs.len_le
  unfold maxLen at hl
  obtain ⟨A, c, rfl, _, _⟩ := hs.form
  obtain ⟨B, c', rfl, _, _⟩ := ha.form
  obtain ⟨C, c'', rfl, _, _⟩ := hb.form
  have GN := Lib.hid hGn
  clear hGn
  refine callsIn_of_wp Tryz.func159 rfl trivial ?_ rfl
  simp only [Tryz.ntmps159, List.size_toArray, List.length_cons, List.length_nil, Nat.reduceAdd, Nat.reduceSub, Array.replicate_succ, Array.replicate_zero, List.push_toArray, List.append_toArray, List.nil_append, List.cons_append]
  gi_wp2
  gi_loopw [9] (fun i wr => ∃ k : Nat, k ≤ s.length ∧ i = .int .i64 k ∧ J ((ordersOf s a b).take k) wr ∧ Held F W wr ∧ W.heap.size ≤ wr.heap.size ∧ Glob wr)
    (fun i _ => s.length - (intOf i).toNat)
  case atStart => exact ⟨0, Nat.zero_le _, rfl, by simpa using hj, Held.refl _ _, Nat.le_refl _, hG⟩
  case round =>
    obtain ⟨k, hk, rfl, hJs, hnx, hwr, hGr⟩ := hrel
    have hs' : SL colK wr F (.slice A s.length c) s := hs.keep hnx.2 hwr
    have ha' : SL cellK wr F (.slice B a.length c') a := ha.keep hnx.2 hwr
    have hb' : SL cellK wr F (.slice C b.length c'') b := hb.keep hnx.2 hwr
    have g0 := (hnx.cell hB0 (World.block_lt_of_cell? W _ h0)).trans h0
    have g1 := (hnx.cell hB1 (World.block_lt_of_cell? W _ h1)).trans h1
    have g2 := (hnx.cell hB2 (World.block_lt_of_cell? W _ h2)).trans h2
    by_cases hlt : k < s.length
    · have hka : k < a.length := by omega
      have hkb : k < b.length := by omega
      obtain ⟨ad, rfl, l1, x0, x1, _, _⟩ := col_at hs' hlt
      obtain ⟨bd, rfl, l2, y0, y1, yu, yt⟩ := cell_at ha' hka
      obtain ⟨cd, rfl, l3, z0, z1, zu, zt⟩ := cell_at hb' hkb
      have k0 : (k : Int) < s.length := by omega
      have k1 : (k : Int) < a.length := by omega
      have k2 : (k : Int) < b.length := by omega
      obtain ⟨cc, hcc⟩ : ∃ cc, cellCompare s[k].kind a[k] b[k] = cc := ⟨_, rfl⟩
      have hCC : ∀ W' : World, Glob W' → CallsIn Fence.wide (n - 1) Tryz.prog 160 #[.int .i64 s[k].kind, .agg #[.int .u64 a[k].num, .string a[k].text], .agg #[.int .u64 b[k].num, .string b[k].text]] W' fun e w' => e = .returned (.int .i64 cc) ∧ Below W'.heap.size W' w' := fun W' h => callsIn_wide.2 (hcc ▸ cellCompare_calls s[k].kind a[k] b[k] W' h yu zu yt zt)
      have CC := Lib.hid hCC
      have HCC := Lib.hid hcc
      clear hcc hCC
      have p0 := fun o => cell_al g0 o
      have p1 := fun o => cell_al g1 o
      have p2 := fun o => cell_al g2 o
      have q0 := fun o => cell_al y0 o
      have q1 := fun o => cell_al y1 o
      have r0 := fun o => cell_al z0 o
      have r1 := fun o => cell_al z1 o
      gi_wp2_with fail
      have hJ' : ∀ W3 : World, Below wr.heap.size wr W3 → J ((ordersOf s a b).take k) W3 := fun W3 h => hJ _ _ _ none hJs (grown_of_below h none) (by simp)
      have hlen : ((ordersOf s a b).take k).length < s.length := by rw [List.length_take]; omega
      have HY : ∀ W3 : World, Below wr.heap.size wr W3 → ∃ fn tmps assign body, (Instr.yield l #[.int .i64 cc]).run Tryz.prog W3 = .ok (.round l fn tmps assign body) W3 ∧ RoundIn Fence.wide (n - 1) Tryz.prog l fn tmps assign body W3 fun e W' => ∃ bv, e = .returned (.bool bv) ∧ Told J Jx F ((ordersOf s a b).take k ++ [cc]) W3 bv W' := fun W3 h => by
        obtain ⟨fn, tmps, assign, body, hy, hR⟩ := hY _ cc W3 (hJ' W3 h) hlen
        refine ⟨fn, tmps, assign, body, hy, hR.mono ?_⟩
        rintro e W' (⟨rfl, h1, h2⟩ | ⟨rfl, h1⟩)
        · exact ⟨true, rfl, fun _ => ⟨h1, h2⟩, fun e => by cases e⟩
        · exact ⟨false, rfl, fun e => (by cases e), fun _ => h1⟩
      have YY := Lib.hid HY
      have hlo : k < (ordersOf s a b).length := by rw [ordersOf_length s a b hla hlb]; exact hlt
      have TS : Hid ((ordersOf s a b).take k ++ [cc] = (ordersOf s a b).take (k + 1)) := by
        show _ = _
        rw [List.take_succ_eq_append_getElem hlo, ordersOf_get s a b k hlt hka hkb hlo, HCC.out]
      clear HY hJ' hY hJ
      gi_region_with (first
        | (refine ⟨trivial, fun _ => (by omega), ?_⟩; gi_at_call 160; refine (CC.out _ (hGr.below (bel_drew (bel_alloc (Below.refl _ _) _)))).mono ?_; rintro e w3 ⟨rfl, hb3⟩; have hbr : Below wr.heap.size wr w3 := bel_trans (bel_drew (bel_alloc (Below.refl _ _) _)) hb3; obtain ⟨fn, tmps, assign, body, hy, hR⟩ := YY.out w3 hbr)
        | (refine ⟨fun _ => (by omega), ?_⟩; refine hR.mono ?_; rintro e w4 ⟨bv, rfl, htold⟩))
      all_goals
        have hfin : (ordersOf s a b).take k ++ [cc] = (ordersOf s a b).take (k + 1) := TS.out
        rw [hfin] at htold
        clear hfin y0 y1 z0 z1 x0 x1 p0 p1 p2 q0 q1 r0 r1 g0 g1 g2
        cases bv
        · gi_wp2
          refine bodyPost_ret (results_none rfl _ _ _) rfl ?_
          exact ⟨⟨_, rfl⟩, .inr ⟨_, ⟨k + 1, rfl⟩, htold.2 rfl⟩⟩
        · gi_wp2
          go_roundw
          case rel => exact ⟨k + 1, by omega, by simp, (htold.1 rfl).1, hnx.trans ((Held.of_below hbr).trans (htold.1 rfl).2), Nat.le_trans hwr (Nat.le_trans hbr.size (htold.1 rfl).2.1), GN.out _ (hnx.trans ((Held.of_below hbr).trans (htold.1 rfl).2))⟩
          case measure => simp [intOf]; omega
    · have hk' : k = s.length := by omega
      have HK := Lib.hid hk'
      clear hk' g0 g1 g2
      gi_wp2
      go_end0
      refine ⟨⟨_, rfl⟩, .inl ⟨_, rfl, ?_⟩⟩
      rw [List.take_of_length_le (by rw [ordersOf_length s a b hla hlb, HK.out]; exact Nat.le_refl _)] at hJs
      exact hJs
end Go.Proofs.YtlhdndnohmikeaaGreatDoor
