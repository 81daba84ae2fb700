/-
  Walks: the stable sort of pairs (1): elements of an array, exchanges, rotations.
  Walks: the stable sort of pairs (2): rotations.
-/
import Derived.Test.YtlhdndnohmikeaaGreatDoorW11
import Derived.Shelf.RegionOpenPlain
set_option linter.unusedVariables false
set_option linter.unusedSimpArgs false
namespace Go.Proofs.YtlhdndnohmikeaaGreatDoor
open Go.RowKit

/-- A pair as it lies in an array: the row's slice, the row that it reads as, the weight. -/
structure Elt where
  val : Value
  row : List Cell
  weight : Int
instance : Inhabited Elt := ⟨⟨.slice none 0 0, [], 0⟩⟩
def Elt.agg (x : Elt) : Value := .agg #[x.val, .int .i64 x.weight]
/-- The array in block B holds xs. -/
structure Arr (w : World) (B : Nat) (xs : List Elt) : Prop where
  c0 : ∀ i (h : i < xs.length), w.cell? ⟨B, i * 2, none⟩ = some xs[i].val
  c1 : ∀ i (h : i < xs.length), w.cell? ⟨B, i * 2 + 1, none⟩ = some (.int .i64 xs[i].weight)
  fr : ∀ o, w.frozen? ⟨B, o, none⟩ = false
  sl : ∀ x ∈ xs, ∃ A n c, x.val = .slice A n c
theorem Arr.keep {w w' : World} {B : Nat} {xs : List Elt} (h : Arr w B xs) (hb : w'.heap[B]? = w.heap[B]?) : Arr w' B xs :=
  ⟨fun i hi => (World.cell?_of_block (w := w) hb).trans (h.c0 i hi), fun i hi => (World.cell?_of_block (w := w) hb).trans (h.c1 i hi), fun o => (World.frozen?_of_block (w := w) hb).trans (h.fr o), h.sl⟩
theorem Arr.drewN {w : World} {B : Nat} {xs : List Elt} (h : Arr w B xs) (n : Nat) : Arr (w.drewN n) B xs := h.keep rfl
theorem Arr.below {w w' : World} {B : Nat} {xs : List Elt} (h : Arr w B xs) (hb : Below w.heap.size w w') (hB : B < w.heap.size) : Arr w' B xs := h.keep (hb.block B hB)
def putElt (w : World) (B i : Nat) (x : Elt) : World := (w.setCell ⟨B, i * 2, none⟩ x.val).setCell ⟨B, i * 2 + 1, none⟩ (.int .i64 x.weight)
theorem cell_ne {w : World} {B a b : Nat} (v : Value) (h : a ≠ b) : (w.setCell ⟨B, a, none⟩ v).cell? ⟨B, b, none⟩ = w.cell? ⟨B, b, none⟩ :=
  World.cell?_setCell_other _ _ _ _ (fun e => h (by injection e with _ h2 _))
theorem Arr.set {w : World} {B i : Nat} {xs : List Elt} (h : Arr w B xs) (x : Elt) (hi : i < xs.length) (hx : ∃ A n c, x.val = .slice A n c) : Arr (putElt w B i x) B (xs.set i x) := by
  unfold putElt
  refine ⟨fun j hj => ?_, fun j hj => ?_, fun o => ?_, fun y hy => ?_⟩
  · rw [List.length_set] at hj
    rw [cell_ne _ (by omega)]
    by_cases hij : i = j
    · subst hij
      rw [World.cell?_setCell_same' _ _ _ (by rw [h.c0 i hj]; rfl)]
      simp
    · rw [cell_ne _ (by omega), h.c0 j hj]
      simp [hij]
  · rw [List.length_set] at hj
    by_cases hij : i = j
    · subst hij
      rw [World.cell?_setCell_same' _ _ _ (by rw [cell_ne _ (by omega), h.c1 i hj]; rfl)]
      simp
    · rw [cell_ne _ (by omega), cell_ne _ (by omega), h.c1 j hj]
      simp [hij]
  · simp [h.fr o]
  · rcases List.mem_or_eq_of_mem_set hy with h1 | h1
    · exact h.sl y h1
    · rw [h1]; exact hx
theorem putElt_grown (w : World) (B i : Nat) (x : Elt) : w.grownBy (putElt w B i x) (some B) := (grown_set w ⟨B, i * 2, none⟩ _).trans (grown_set _ ⟨B, i * 2 + 1, none⟩ _)
/-- What the second store of an exchange wants. -/
theorem swap_cells {w : World} {B i j : Nat} {v1 v2 v3 u0 u1 : Value} (hij : i ≠ j) (h0 : w.cell? ⟨B, j * 2, none⟩ = some u0) (h1 : w.cell? ⟨B, j * 2 + 1, none⟩ = some u1) :
    ((w.setCell ⟨B, i * 2, none⟩ v1).setCell ⟨B, i * 2 + 1, none⟩ v2).cell? ⟨B, j * 2, none⟩ = some u0 ∧ ((w.setCell ⟨B, i * 2, none⟩ v1).setCell ⟨B, i * 2 + 1, none⟩ v2).cell? ⟨B, j * 2 + 1, none⟩ = some u1 ∧
    (((w.setCell ⟨B, i * 2, none⟩ v1).setCell ⟨B, i * 2 + 1, none⟩ v2).setCell ⟨B, j * 2, none⟩ v3).cell? ⟨B, j * 2 + 1, none⟩ = some u1 := by
  refine ⟨?_, ?_, ?_⟩
  · rw [cell_ne _ (by omega), cell_ne _ (by omega), h0]
  · rw [cell_ne _ (by omega), cell_ne _ (by omega), h1]
  · rw [cell_ne _ (by omega), cell_ne _ (by omega), cell_ne _ (by omega), h1]
theorem Arr.at_mid {w : World} {B i : Nat} {l r : List Elt} {y : Elt} (h : Arr w B (l ++ y :: r)) (hi : i = l.length) : w.cell? ⟨B, i * 2, none⟩ = some y.val ∧ w.cell? ⟨B, i * 2 + 1, none⟩ = some (.int .i64 y.weight) := by
  subst hi
  have h0 := h.c0 l.length (by simp)
  have h1 := h.c1 l.length (by simp)
  simp at h0 h1
  exact ⟨h0, h1⟩
theorem Arr.swap {w : World} {B i j : Nat} {l m r : List Elt} {y z : Elt} (h : Arr w B (l ++ y :: (m ++ z :: r))) (hi : i = l.length) (hj : j = l.length + 1 + m.length) :
    Arr (putElt (putElt w B i z) B j y) B (l ++ z :: (m ++ y :: r)) := by
  subst hi hj
  have h1 := h.set (i := l.length) z (by simp) (h.sl z (by simp))
  have e1 : (l ++ y :: (m ++ z :: r)).set l.length z = l ++ z :: (m ++ z :: r) := by simp
  rw [e1] at h1
  have h2 := h1.set (i := l.length + 1 + m.length) y (by simp; omega) (h.sl y (by simp))
  have e2 : (l ++ z :: (m ++ z :: r)).set (l.length + 1 + m.length) y = l ++ z :: (m ++ y :: r) := by
    rw [List.set_append_right _ _ (by omega), show l.length + 1 + m.length - l.length = m.length + 1 by omega]
    simp
  rw [e2] at h2
  exact h2

set_option maxRecDepth 100000 in
theorem swapRange_calls (B N cap a b n : Nat) (p u v x q : List Elt) (hN : (p ++ u ++ v ++ x ++ q).length = N) (hc : N ≤ maxLen) (ha : p.length = a) (hb : (p ++ u ++ v).length = b) (hu : u.length = n) (hx : x.length = n) (w : World) (hA : Arr w B (p ++ u ++ v ++ x ++ q)) (fv : Value) :
    Calls Tryz.prog 226 #[.slice (some ⟨B, 0, none⟩) N cap, .int .i64 a, .int .i64 b, .int .i64 n, fv] w fun e w' => e = .returned (.tuple #[]) ∧ Arr w' B (p ++ x ++ v ++ u ++ q) ∧ w.grownBy w' (some B) := by
  unfold maxLen at hc
  have hlen : a + n + v.length + n + q.length = N := by simp at hN; omega
  have hbb : a + n + v.length = b := by simp at hb; omega
  have hnb : n ≤ N := by omega
  have HU := Lib.hid hu
  have HX := Lib.hid hx
  have HA := Lib.hid ha
  clear hN hb ha hu hx
  go_enter Tryz.func226, Tryz.ntmps226
  go_wp2
  go_loopw [10] (fun i wr => ∃ k : Nat, k ≤ n ∧ i = .int .i64 k ∧ Arr wr B (p ++ x.take k ++ u.drop k ++ v ++ u.take k ++ x.drop k ++ q) ∧ w.grownBy wr (some B)) (fun i _ => n - (intOf i).toNat)
  case atStart => exact ⟨0, by omega, rfl, by simpa using hA, (Below.refl w.heap.size w).os, rfl, rfl, Nat.le_refl _, fun _ _ _ => rfl⟩
  case round =>
    obtain ⟨k, hk, rfl, hAr, hgr⟩ := hrel
    by_cases hlt : k < n
    · have hku : k < u.length := by have := HU.out; omega
      have hkx : k < x.length := by have := HX.out; omega
      have e1 : p ++ x.take k ++ u.drop k ++ v ++ u.take k ++ x.drop k ++ q = (p ++ x.take k) ++ u[k] :: ((u.drop (k + 1) ++ v ++ u.take k) ++ x[k] :: (x.drop (k + 1) ++ q)) := by
        
        have d1 : u.drop k = u[k] :: u.drop (k + 1) := List.drop_eq_getElem_cons hku
        have d2 : x.drop k = x[k] :: x.drop (k + 1) := List.drop_eq_getElem_cons hkx
        rw [d1, d2]; simp only [List.append_assoc, List.cons_append]
      rw [e1] at hAr
      have l1 : a + k = (p ++ x.take k).length := by have := HA.out; simp; omega
      have l2 : b + k = (p ++ x.take k).length + 1 + (u.drop (k + 1) ++ v ++ u.take k).length := by have := HA.out; have := HU.out; simp; omega
      have hS := Lib.hid (hAr.swap l1 l2)
      obtain ⟨x0, x1⟩ := hAr.at_mid l1
      have hAr' : Arr wr B ((p ++ x.take k ++ u[k] :: (u.drop (k + 1) ++ v ++ u.take k)) ++ x[k] :: (x.drop (k + 1) ++ q)) := by simpa using hAr
      obtain ⟨y0, y1⟩ := hAr'.at_mid (i := b + k) (by rw [l2]; simp; omega)
      obtain ⟨A1, n1, c1, hv1⟩ := hAr.sl u[k] (by simp)
      obtain ⟨A2, n2, c2, hv2⟩ := hAr.sl x[k] (by simp)
      obtain ⟨wu, hwu⟩ : ∃ z, u[k].weight = z := ⟨_, rfl⟩
      obtain ⟨wx, hwx⟩ : ∃ z, x[k].weight = z := ⟨_, rfl⟩
      rw [hv1] at x0
      rw [hwu] at x1
      rw [hv2] at y0
      rw [hwx] at y1
      have hfr := hAr.fr
      have i1 : ((a : Int) + k) < N := by omega
      have i2 : ((b : Int) + k) < N := by omega
      have HV := Lib.hid (And.intro (And.intro hv1 hwu) (And.intro hv2 hwx))
      obtain ⟨z0, z1, z2⟩ := swap_cells (v1 := .slice A2 n2 c2) (v2 := .int .i64 wx) (v3 := .slice A1 n1 c1) (show a + k ≠ b + k by omega) y0 y1
      clear hv1 hv2 hwu hwx l1 l2 e1 hAr hAr' hlen hbb
      have mx := mixed
      go_wp2
      go_big_region_o
      have HG := Lib.hid hgr
      clear hgr x0 x1 y0 y1 z0 z1 z2 i1 i2 hfr
      go_wp2
      go_roundw
      case rel =>
        refine ⟨k + 1, by omega, by go_num, ?_, ?_⟩
        · have h1 := hS.out
          unfold putElt at h1
          rw [HV.out.1.1, HV.out.1.2, HV.out.2.1, HV.out.2.2] at h1
          have e2 : p ++ x.take (k + 1) ++ u.drop (k + 1) ++ v ++ u.take (k + 1) ++ x.drop (k + 1) ++ q = (p ++ x.take k) ++ x[k] :: ((u.drop (k + 1) ++ v ++ u.take k) ++ u[k] :: (x.drop (k + 1) ++ q)) := by
            rw [List.take_succ_eq_append_getElem hku, List.take_succ_eq_append_getElem hkx]; simp only [List.append_assoc, List.cons_append, List.nil_append]
          rw [e2]
          exact h1.drewN 1
        · exact ((((HG.out.trans (grown_set _ ⟨B, (a + k) * 2, none⟩ _)).trans (grown_set _ ⟨B, (a + k) * 2 + 1, none⟩ _)).trans (grown_set _ ⟨B, (b + k) * 2, none⟩ _)).trans (grown_set _ ⟨B, (b + k) * 2 + 1, none⟩ _)).trans (grown_b (Below.refl _ _).drew _)
      case measure => simp [intOf]; omega
    · have hk' : k = n := by omega
      have HK := Lib.hid hk'
      have HAr := Lib.hid hAr
      have HG := Lib.hid hgr
      clear hk' hAr hgr
      go_wp2
      first | go_end0 | go_ret
      refine ⟨rfl, ?_, HG.out⟩
      have h1 := HAr.out
      have e1 := HU.out
      have e2 := HX.out
      rw [HK.out, List.take_of_length_le (by omega), List.drop_of_length_le (by omega), List.take_of_length_le (by omega), List.drop_of_length_le (by omega)] at h1
      simpa using h1
end Go.Proofs.YtlhdndnohmikeaaGreatDoor

set_option linter.unusedVariables false
set_option linter.unusedSimpArgs false
namespace Go.Proofs.YtlhdndnohmikeaaGreatDoor
open Go.RowKit

/-- Where a rotation stands: i elements ahead of m, j behind, are to change places. -/
def Rot (w : World) (B N m i j : Nat) (T : List Elt) : Prop :=
  ∃ pr L R sf : List Elt, Arr w B (pr ++ L ++ R ++ sf) ∧ pr ++ R ++ L ++ sf = T ∧ L.length = i ∧ R.length = j ∧ pr.length + i = m ∧ (pr ++ L ++ R ++ sf).length = N

theorem Rot.lt_calls {w : World} {B N m i j j' d cap : Nat} {T : List Elt} (h : Rot w B N m i j T) (hc : N ≤ maxLen) (hj : j = j' + i) (hd : m = d + i) (fv : Value) :
    Calls Tryz.prog 226 #[.slice (some ⟨B, 0, none⟩) N cap, .int .i64 d, .int .i64 ((m + j' : Nat) : Int), .int .i64 i, fv] w fun e w' => e = .returned (.tuple #[]) ∧ Rot w' B N m i j' T ∧ w.grownBy w' (some B) := by
  obtain ⟨pr, L, R, sf, hA, hT, hL, hR, hm, hn⟩ := h
  have hR' : R.take j' ++ R.drop j' = R := List.take_append_drop _ _
  rw [← hR'] at hA hn hT
  have l1 : (R.take j').length = j' := by rw [List.length_take]; omega
  have l2 : (R.drop j').length = i := by rw [List.length_drop]; omega
  refine (swapRange_calls B N cap d (m + j') i pr L (R.take j') (R.drop j') sf (by simpa using hn) hc (by omega) (by simp only [List.length_append, l1]; omega) hL l2 w (by simpa using hA) fv).mono ?_
  rintro e w' ⟨rfl, h1, h2⟩
  refine ⟨rfl, ⟨pr, R.drop j', R.take j', L ++ sf, by simpa using h1, ?_, l2, l1, by omega, ?_⟩, h2⟩
  · simpa using hT
  · simp only [List.length_append, l1, l2] at hn ⊢; omega
theorem Rot.gt_calls {w : World} {B N m i j i' d cap : Nat} {T : List Elt} (h : Rot w B N m i j T) (hc : N ≤ maxLen) (hi : i = i' + j) (hd : m = d + i) (fv : Value) :
    Calls Tryz.prog 226 #[.slice (some ⟨B, 0, none⟩) N cap, .int .i64 d, .int .i64 m, .int .i64 j, fv] w fun e w' => e = .returned (.tuple #[]) ∧ Rot w' B N m i' j T ∧ w.grownBy w' (some B) := by
  obtain ⟨pr, L, R, sf, hA, hT, hL, hR, hm, hn⟩ := h
  have hL' : L.take j ++ L.drop j = L := List.take_append_drop _ _
  rw [← hL'] at hA hn hT
  have l1 : (L.take j).length = j := by rw [List.length_take]; omega
  have l2 : (L.drop j).length = i' := by rw [List.length_drop]; omega
  refine (swapRange_calls B N cap d m j pr (L.take j) (L.drop j) R sf (by simpa using hn) hc (by omega) (by simp only [List.length_append, l1, l2]; omega) l1 hR w (by simpa using hA) fv).mono ?_
  rintro e w' ⟨rfl, h1, h2⟩
  refine ⟨rfl, ⟨pr ++ R, L.drop j, L.take j, sf, by simpa using h1, ?_, l2, l1, by simp only [List.length_append]; omega, ?_⟩, h2⟩
  · simpa using hT
  · simp only [List.length_append, l1, l2] at hn ⊢; omega
theorem Rot.eq_calls {w : World} {B N m i j d cap : Nat} {T : List Elt} (h : Rot w B N m i j T) (hc : N ≤ maxLen) (hi : i = j) (hd : m = d + i) (fv : Value) :
    Calls Tryz.prog 226 #[.slice (some ⟨B, 0, none⟩) N cap, .int .i64 d, .int .i64 m, .int .i64 i, fv] w fun e w' => e = .returned (.tuple #[]) ∧ Arr w' B T ∧ w.grownBy w' (some B) := by
  obtain ⟨pr, L, R, sf, hA, hT, hL, hR, hm, hn⟩ := h
  refine (swapRange_calls B N cap d m i pr L [] R sf (by simpa using hn) hc (by omega) (by simp only [List.length_append, List.length_nil]; omega) hL (by omega) w (by simpa using hA) fv).mono ?_
  rintro e w' ⟨rfl, h1, h2⟩
  refine ⟨rfl, ?_, h2⟩
  rw [← hT]
  simpa using h1
set_option maxRecDepth 100000 in
set_option maxHeartbeats 1000000 in
theorem rotate_calls (B N cap a m b : Nat) (p L R q : List Elt) (hN : (p ++ L ++ R ++ q).length = N) (hc : N ≤ maxLen) (ha : p.length = a) (hm : a + L.length = m) (hb : m + R.length = b) (hL : 0 < L.length) (hR : 0 < R.length) (w : World) (hA : Arr w B (p ++ L ++ R ++ q)) (fv : Value) :
    Calls Tryz.prog 193 #[.slice (some ⟨B, 0, none⟩) N cap, .int .i64 a, .int .i64 m, .int .i64 b, fv] w fun e w' => e = .returned (.tuple #[]) ∧ Arr w' B (p ++ R ++ L ++ q) ∧ w.grownBy w' (some B) := by
  have HC := Lib.hid hc
  unfold maxLen at hc
  obtain ⟨T, hT⟩ : ∃ T, p ++ R ++ L ++ q = T := ⟨_, rfl⟩
  obtain ⟨i0, hi0⟩ : ∃ i0, L.length = i0 := ⟨_, rfl⟩
  obtain ⟨j0, hj0⟩ : ∃ j0, R.length = j0 := ⟨_, rfl⟩
  rw [hT]
  have hR0 : Hid (Rot w B N m i0 j0 T) := ⟨p, L, R, q, hA, hT, hi0, hj0, by omega, hN⟩
  have hbN : m + j0 ≤ N := by simp at hN; omega
  have e1 : (m : Int) - a = i0 := by omega
  have e2 : (b : Int) - m = j0 := by omega
  rw [hi0] at hL
  rw [hj0] at hR
  have him : i0 ≤ m := by omega
  have b1 : b ≤ N := by omega
  have b2 : a ≤ m := by omega
  have b3 : m ≤ b := by omega
  clear hT hN ha hm hb hA hi0 hj0
  go_enter Tryz.func193, Tryz.ntmps193
  go_wp2
  go_loopw [10, 11] (fun vi vj wr => ∃ i j : Nat, vi = .int .i64 i ∧ vj = .int .i64 j ∧ 0 < i ∧ 0 < j ∧ i ≤ m ∧ m + j ≤ N ∧ Hid (Rot wr B N m i j T) ∧ w.grownBy wr (some B)) (fun vi vj _ => (intOf vi).toNat + (intOf vj).toNat)
  case atStart => exact ⟨i0, j0, rfl, rfl, hL, hR, him, hbN, hR0, grown_b (Below.refl _ _) _⟩
  case round =>
    obtain ⟨i, j, rfl, rfl, hi, hj, him', hjN, hRot, hgr⟩ := hrel
    clear e1 e2 b1 b2 b3 hL hR him hbN hR0
    obtain ⟨d, hd⟩ : ∃ d, m = d + i := ⟨m - i, by omega⟩
    have hd1 : (m : Int) - i = d := by omega
    rcases Nat.lt_trichotomy i j with hlt | heq | hgt
    · obtain ⟨j', hj'⟩ : ∃ j', j = j' + i := ⟨j - i, by omega⟩
      have hj1 : (j : Int) - i = j' := by omega
      have hj2 : (m : Int) + j - i = (m + j' : Nat) := by omega
      have n2 : ((i : Int) != j) = true := bne_true (by omega)
      have n4 : decide (j < i) = false := decide_eq_false (by omega)
      have n5 : ¬ i = j := by omega
      have SW := Lib.hid (hRot.out.lt_calls (cap := cap) HC.out hj' hd fv)
      have HM := Lib.hid (show (intOf (.int .i64 i)).toNat + (intOf (.int .i64 j')).toNat < (intOf (.int .i64 i)).toNat + (intOf (.int .i64 j)).toNat by simp [intOf]; omega)
      have HJ := Lib.hid (show 0 < j' ∧ m + j' ≤ N by omega)
      have HG := Lib.hid hgr
      clear hj' hd hRot hlt hgr
      go_wp2_with (go_at_call 226; refine SW.out.mono ?_; rintro e w1 ⟨rfl, hR1, hg1⟩; have HR1 := Lib.hid hR1; have HG1 := Lib.hid hg1; clear hR1 hg1)
      go_roundw
      case rel => exact ⟨i, j', rfl, rfl, hi, HJ.out.1, him', HJ.out.2, HR1, HG.out.trans HG1.out⟩
      case measure => exact HM.out
    · have SW := Lib.hid (hRot.out.eq_calls (cap := cap) HC.out heq hd fv)
      have HG := Lib.hid hgr
      have n2 : ((i : Int) != j) = false := bne_false (by omega)
      have n5 : i = j := heq
      clear hd hRot hgr
      subst n5
      go_wp2_with (go_at_call 226; refine SW.out.mono ?_; rintro e w1 ⟨rfl, hR1, hg1⟩; have HR1 := Lib.hid hR1; have HG1 := Lib.hid hg1; clear hR1 hg1)
      go_end0
      exact ⟨rfl, HR1.out, HG.out.trans HG1.out⟩
    · obtain ⟨i', hi'⟩ : ∃ i', i = i' + j := ⟨i - j, by omega⟩
      have hj1 : (i : Int) - j = i' := by omega
      have n2 : ((i : Int) != j) = true := bne_true (by omega)
      have n4 : decide (j < i) = true := decide_eq_true (by omega)
      have n5 : ¬ i = j := by omega
      have SW := Lib.hid (hRot.out.gt_calls (cap := cap) HC.out hi' hd fv)
      have HM := Lib.hid (show (intOf (.int .i64 i')).toNat + (intOf (.int .i64 j)).toNat < (intOf (.int .i64 i)).toNat + (intOf (.int .i64 j)).toNat by simp [intOf]; omega)
      have HJ := Lib.hid (show 0 < i' ∧ i' ≤ m by omega)
      have HG := Lib.hid hgr
      clear hi' hd hRot hgr
      go_wp2_with (go_at_call 226; refine SW.out.mono ?_; rintro e w1 ⟨rfl, hR1, hg1⟩; have HR1 := Lib.hid hR1; have HG1 := Lib.hid hg1; clear hR1 hg1)
      go_roundw
      case rel => exact ⟨i', j, rfl, rfl, HJ.out.1, hj, HJ.out.2, hjN, HR1, HG.out.trans HG1.out⟩
      case measure => exact HM.out
end Go.Proofs.YtlhdndnohmikeaaGreatDoor
