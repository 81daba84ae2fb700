/-
  Walks: the stable sort of pairs (3): merges: one element ahead.
  Walks: the stable sort of pairs (4): merges: one element behind.
-/
import Derived.Test.YtlhdndnohmikeaaGreatDoorMW12
set_option linter.unusedVariables false
set_option linter.unusedSimpArgs false
namespace Go.Proofs.YtlhdndnohmikeaaGreatDoor
open Go.RowKit

/-- What is asked of a comparison: what its call answers, and that it orders. -/
structure Cmp (w0 : World) (B C : Nat) (cf : Elt → Elt → Int) (S : Elt → Prop) : Prop where
  call : ∀ W x y, w0.grownBy W (some B) → S x → S y → Calls Tryz.prog 73 #[.agg #[x.val, .int .i64 x.weight], .agg #[y.val, .int .i64 y.weight], .pointer (some ⟨C, 0, none⟩)] W fun e w' => e = .returned (.int .i64 (cf x y)) ∧ Below W.heap.size W w'
  asym : ∀ x y, S x → S y → cf x y < 0 → 0 ≤ cf y x
  trans : ∀ x y z, S x → S y → S z → 0 ≤ cf y x → 0 ≤ cf z y → 0 ≤ cf z x
section
variable {w0 : World} {B C : Nat} {cf : Elt → Elt → Int} {S : Elt → Prop}
theorem Cmp.refl (h : Cmp w0 B C cf S) (x : Elt) (hx : S x) : 0 ≤ cf x x := Decidable.byContradiction fun hn => hn (h.asym x x hx hx (by omega))
end
theorem Arr.at_ {w : World} {B i : Nat} {xs : List Elt} {y : Elt} (h : Arr w B xs) (hi : xs[i]? = some y) : w.cell? ⟨B, i * 2, none⟩ = some y.val ∧ w.cell? ⟨B, i * 2 + 1, none⟩ = some (.int .i64 y.weight) ∧ ∃ A n c, y.val = .slice A n c := by
  obtain ⟨hl, rfl⟩ := List.getElem?_eq_some_iff.1 hi
  exact ⟨h.c0 i hl, h.c1 i hl, h.sl _ (List.getElem_mem hl)⟩
theorem swap_grown (w : World) (B i j : Nat) (u0 u1 u2 u3 : Value) : w.grownBy ((((w.setCell ⟨B, i, none⟩ u0).setCell ⟨B, i + 1, none⟩ u1).setCell ⟨B, j, none⟩ u2).setCell ⟨B, j + 1, none⟩ u3).drew (some B) :=
  ((((grown_set w ⟨B, i, none⟩ _).trans (grown_set _ ⟨B, i + 1, none⟩ _)).trans (grown_set _ ⟨B, j, none⟩ _)).trans (grown_set _ ⟨B, j + 1, none⟩ _)).trans (grown_b (Below.refl _ _).drew _)
theorem get_mid {p v q : List Elt} {x : Elt} {a i m : Nat} (ha : p.length = a) (hm : a + 1 = m) (hi : m ≤ i) (hl : i - m < v.length) : (p ++ x :: (v ++ q))[i]? = some v[i - m] := by
  rw [List.getElem?_append_right (by omega), show i - p.length = (i - m) + 1 by omega, List.getElem?_cons_succ, List.getElem?_append_left hl, List.getElem?_eq_getElem hl]
def Sorted (cf : Elt → Elt → Int) (xs : List Elt) : Prop := xs.Pairwise (fun x y => 0 ≤ cf y x)
theorem Sorted.ahead {cf : Elt → Elt → Int} {v : List Elt} (h : Sorted cf v) {k : Nat} (hk : k < v.length) : (∀ y ∈ v.take k, 0 ≤ cf v[k] y) ∧ (∀ y ∈ v.drop (k + 1), 0 ≤ cf y v[k]) := by
  have e : v = v.take k ++ v[k] :: v.drop (k + 1) := by (have d := List.drop_eq_getElem_cons hk; rw [← d, List.take_append_drop])
  have h' := h
  unfold Sorted at h'
  rw [e, List.pairwise_append, List.pairwise_cons] at h'
  exact ⟨fun y hy => h'.2.2 y hy v[k] (List.mem_cons_self ..), fun y hy => h'.2.1.1 y hy⟩
/-- The split that the search has found so far: all ahead of t are not above x, all from s on not below. -/
def Split (cf : Elt → Elt → Int) (x : Elt) (v : List Elt) (t s : Nat) : Prop := t ≤ s ∧ s ≤ v.length ∧ (∀ y ∈ v.take t, 0 ≤ cf x y) ∧ (∀ y ∈ v.drop s, 0 ≤ cf y x)
theorem Split.up {w0 : World} {B C : Nat} {cf : Elt → Elt → Int} {S : Elt → Prop} (hc : Cmp w0 B C cf S) {x : Elt} {v : List Elt} {t s k : Nat} (h : Split cf x v t s) (hv : Sorted cf v) (hS : ∀ y ∈ v, S y) (hx : S x) (hk : k < s) (hkv : k < v.length) (ht : t ≤ k) (hl : 0 ≤ cf x v[k]) : Split cf x v (k + 1) s := by
  refine ⟨hk, h.2.1, fun y hy => ?_, h.2.2.2⟩
  rw [List.take_succ_eq_append_getElem hkv, List.mem_append] at hy
  rcases hy with hy | hy
  · exact hc.trans y v[k] x (hS y (List.mem_of_mem_take hy)) (hS _ (List.getElem_mem hkv)) hx ((hv.ahead hkv).1 y hy) hl
  · simp at hy; rw [hy]; exact hl
theorem Split.down {w0 : World} {B C : Nat} {cf : Elt → Elt → Int} {S : Elt → Prop} (hc : Cmp w0 B C cf S) {x : Elt} {v : List Elt} {t s k : Nat} (h : Split cf x v t s) (hv : Sorted cf v) (hS : ∀ y ∈ v, S y) (hx : S x) (ht : t ≤ k) (hkv : k < v.length) (hl : 0 ≤ cf v[k] x) : Split cf x v t k := by
  refine ⟨ht, by omega, h.2.2.1, fun y hy => ?_⟩
  rw [List.drop_eq_getElem_cons hkv, List.mem_cons] at hy
  rcases hy with hy | hy
  · rw [hy]; exact hl
  · exact hc.trans x v[k] y hx (hS _ (List.getElem_mem hkv)) (hS y (List.mem_of_mem_drop hy)) hl ((hv.ahead hkv).2 y hy)
theorem Split.sorted {cf : Elt → Elt → Int} {x : Elt} {v : List Elt} {t : Nat} (h : Split cf x v t t) (hv : Sorted cf v) : Sorted cf (v.take t ++ x :: v.drop t) := by
  have hv' := hv
  unfold Sorted at hv'
  rw [← List.take_append_drop t v, List.pairwise_append] at hv'
  unfold Sorted
  rw [List.pairwise_append, List.pairwise_cons]
  refine ⟨hv'.1, ⟨h.2.2.2, hv'.2.1⟩, fun a ha b hb => ?_⟩
  rcases List.mem_cons.1 hb with rfl | hb
  · exact h.2.2.1 a ha
  · exact hv'.2.2 a ha b hb

set_option maxRecDepth 100000 in
set_option maxHeartbeats 2000000 in
theorem merge1_calls (w0 : World) (B C N cap a m b : Nat) (cf : Elt → Elt → Int) (S : Elt → Prop) (hcmp : Cmp w0 B C cf S) (p v q : List Elt) (x : Elt) (hN : (p ++ x :: (v ++ q)).length = N) (hc : N ≤ 4611686018427387903) (ha : p.length = a) (hm : a + 1 = m) (hb : m + v.length = b)
    (hv : Sorted cf v) (hS : ∀ y ∈ v, S y) (hx : S x) (w : World) (hw : w0.grownBy w (some B)) (hB : B < w0.heap.size) (hA : Arr w B (p ++ x :: (v ++ q))) :
    Calls Tryz.prog 158 #[.slice (some ⟨B, 0, none⟩) N cap, .int .i64 a, .int .i64 m, .int .i64 b, .func (.func 73) #[] #[.pointer (some ⟨C, 0, none⟩)]] w fun e w' =>
      e = .returned (.tuple #[]) ∧ (∃ r, Arr w' B (p ++ r ++ q) ∧ r.Perm (x :: v) ∧ Sorted cf r) ∧ w.grownBy w' (some B) := by
  have hbN : b ≤ N := by simp at hN; omega
  have HN := Lib.hid (show m + v.length = b from hb)
  have HP := Lib.hid ha
  have e1 : (m : Int) - a = 1 := by omega
  have HM := Lib.hid hm
  have haN : a < N := by omega
  have hmb : m ≤ b := by omega
  have hBw : Hid (B < w.heap.size) := Nat.lt_of_lt_of_le hB hw.size
  have hsp : Hid (Split cf x v (m - m) (b - m)) := ⟨by omega, by omega, by simp, by rw [show b - m = v.length by omega]; simp⟩
  clear hN ha hb hm hB
  go_enter Tryz.func158, Tryz.ntmps158
  go_wp2
  go_loopw [10, 11] (fun vi vj wr => ∃ i j : Nat, vi = .int .i64 i ∧ vj = .int .i64 j ∧ m ≤ i ∧ i ≤ j ∧ j ≤ b ∧ Hid (Split cf x v (i - m) (j - m)) ∧ Below w.heap.size w wr) (fun vi vj _ => (intOf vj).toNat - (intOf vi).toNat)
  case atStart => exact ⟨m, b, rfl, rfl, Nat.le_refl _, hmb, Nat.le_refl _, hsp, Below.refl _ _⟩
  case round =>
    obtain ⟨i, j, rfl, rfl, hmi, hij, hjn, hSp, hbw⟩ := hrel
    by_cases hlt : i < j
    · obtain ⟨h, hh⟩ : ∃ h, (i + j) / 2 = h := ⟨_, rfl⟩
      have hh1 : ((i : Int) + j) / 2 = h := by omega
      have hih : i ≤ h := by omega
      have hhj : h < j := by omega
      have hhN : h < N := by omega
      have hkv : h - m < v.length := by have := HN.out; omega
      have hAw := hA.below hbw hBw.out
      obtain ⟨y0, y1, _⟩ := hAw.at_ (get_mid HP.out HM.out (by omega) hkv)
      obtain ⟨x0, x1, _⟩ := hAw.at_ (i := a) (y := x) (by rw [← HP.out]; simp)
      have hCC : ∀ W : World, Below wr.heap.size wr W → Calls Tryz.prog 73 #[.agg #[v[h - m].val, .int .i64 v[h - m].weight], .agg #[x.val, .int .i64 x.weight], .pointer (some ⟨C, 0, none⟩)] W fun e w' => e = .returned (.int .i64 (cf v[h - m] x)) ∧ Below W.heap.size W w' := fun W hW =>
        hcmp.call W _ _ ((hw.trans (grown_b hbw _)).trans (grown_b hW _)) (hS _ (List.getElem_mem hkv)) hx
      have hup : Hid (cf v[h - m] x < 0 → Split cf x v (h + 1 - m) (j - m)) := fun hl => by
        have := hSp.out.up hcmp hv hS hx (show h - m < j - m by omega) hkv (by omega) (hcmp.asym _ _ (hS _ (List.getElem_mem hkv)) hx hl)
        rwa [show h + 1 - m = h - m + 1 by omega]
      have hdn : Hid (¬ cf v[h - m] x < 0 → Split cf x v (i - m) (h - m)) := fun hl => hSp.out.down hcmp hv hS hx (by omega) hkv (by omega)
      obtain ⟨vy, hvy⟩ : ∃ z, v[h - m].val = z := ⟨_, rfl⟩
      obtain ⟨wy, hwy⟩ : ∃ z, v[h - m].weight = z := ⟨_, rfl⟩
      obtain ⟨cv, hcv⟩ : ∃ z, cf v[h - m] x = z := ⟨_, rfl⟩
      rw [hvy] at y0 hCC
      rw [hwy] at y1 hCC
      rw [hcv] at hup hdn hCC
      obtain ⟨lb, hlb⟩ : ∃ z, decide (cv < 0) = z := ⟨_, rfl⟩
      have CC := Lib.hid hCC
      clear hvy hwy hcv hCC hAw
      have z0 := fun p : Later wr => later_cell x0 p
      have z1 := fun p : Later wr => later_cell x1 p
      have z2 := fun p : Later wr => later_cell y0 p
      have z3 := fun p : Later wr => later_cell y1 p
      have HH := Lib.hid (And.intro hih (And.intro hhj hmi))
      go_wp2
      refine wp_region_later mixed (by kernel_rfl) ?_
      repeat (go_big_quiet_step ((go_at_call 73; exact later_of (CC.out _ (Later.below _)))))
      refine wpQuiet_nil ?_
      intro w2 hw2
      have hb2 := later_below hw2
      clear hw2 z0 z1 z2 z3 x0 x1 y0 y1
      have HLB : Hid (decide (cv < 0) = lb) := hlb
      clear hlb
      cases lb
      · have hs2 := Lib.hid (hdn.out (by have := of_decide_eq_false HLB.out; omega))
        have HMs := Lib.hid (show (intOf (.int .i64 h)).toNat - (intOf (.int .i64 i)).toNat < (intOf (.int .i64 j)).toNat - (intOf (.int .i64 i)).toNat by simp [intOf]; omega)
        clear hh1 hh hup hdn
        go_wp2
        go_roundw
        case rel => exact ⟨i, h, rfl, rfl, hmi, hih, by omega, hs2, bel_trans hbw hb2⟩
        case measure => exact HMs.out
      · have hs2 := Lib.hid (hup.out (of_decide_eq_true HLB.out))
        have HMs := Lib.hid (show (intOf (.int .i64 j)).toNat - (intOf (.int .i64 ((h : Int) + 1))).toNat < (intOf (.int .i64 j)).toNat - (intOf (.int .i64 i)).toNat by simp [intOf]; omega)
        clear hh1 hh hup hdn
        go_wp2
        go_roundw
        case rel => exact ⟨h + 1, j, by go_num, rfl, by omega, by omega, hjn, hs2, bel_trans hbw hb2⟩
        case measure => exact HMs.out
    · have hij' : i = j := by omega
      subst hij'
      rename World => wo
      have HSp := hSp
      obtain ⟨t, ht⟩ : ∃ t, i - m = t := ⟨_, rfl⟩
      have ht1 : (i : Int) - 1 = (a + t : Nat) := by have := HM.out; omega
      have hAw := hA.below hbw hBw.out
      rw [ht] at HSp
      have ht2 : a + t + 1 = i := by have := HM.out; omega
      have htv : t ≤ v.length := by have := HN.out; omega
      have htN : a + t < N := by have := HN.out; have := HM.out; omega
      have HT := Lib.hid (And.intro ht2 htv)
      have HMI := Lib.hid (And.intro hmi hjn)
      have hst : Hid (Arr wo B (p ++ (v.take 0 ++ x :: v.drop 0) ++ q)) := by show Arr _ _ _; simpa using hAw
      obtain ⟨e, he⟩ : ∃ e, a + t = e := ⟨_, rfl⟩
      rw [he] at ht1 htN
      have HE := Lib.hid he
      have hae : a ≤ e := by omega
      clear hSp hij hlt ht ht2 htv hmi hjn hAw he
      go_wp2
      go_loopw [13] (fun vi wr => ∃ k : Nat, vi = .int .i64 k ∧ a ≤ k ∧ k ≤ e ∧ Hid (Arr wr B (p ++ (v.take (k - a) ++ x :: v.drop (k - a)) ++ q)) ∧ wo.grownBy wr (some B)) (fun vi _ => e - (intOf vi).toNat)
      case atStart => exact ⟨a, rfl, Nat.le_refl _, hae, by rw [Nat.sub_self]; exact hst, grown_b (Below.refl _ _) _⟩
      case round =>
        obtain ⟨k, rfl, hak, hke, hAr, hgr⟩ := hrel
        by_cases hlt : k < e
        · have hkv : k - a < v.length := by have := HT.out; have := HE.out; omega
          have e2 : p ++ (v.take (k - a) ++ x :: v.drop (k - a)) ++ q = (p ++ v.take (k - a)) ++ x :: ([] ++ v[k - a] :: (v.drop (k - a + 1) ++ q)) := by
            have d1 : v.drop (k - a) = v[k - a] :: v.drop (k - a + 1) := List.drop_eq_getElem_cons hkv
            rw [d1]; simp only [List.append_assoc, List.cons_append, List.nil_append]
          have hAr1 := hAr.out
          rw [e2] at hAr1
          have l1 : k = (p ++ v.take (k - a)).length := by have := HP.out; simp; omega
          have hS := Lib.hid (hAr1.swap l1 (show k + 1 = (p ++ v.take (k - a)).length + 1 + ([] : List Elt).length by rw [← l1]; rfl))
          obtain ⟨x0, x1⟩ := hAr1.at_mid l1
          have hAr2 : Arr wr B ((p ++ v.take (k - a) ++ [x]) ++ v[k - a] :: (v.drop (k - a + 1) ++ q)) := by simpa using hAr1
          obtain ⟨y0, y1⟩ := hAr2.at_mid (i := k + 1) (by rw [List.length_append, ← l1]; rfl)
          obtain ⟨A1, n1, c1, hv1⟩ := hAr1.sl x (by simp)
          obtain ⟨A2, n2, c2, hv2⟩ := hAr2.sl v[k - a] (by simp)
          obtain ⟨wu, hwu⟩ : ∃ z, x.weight = z := ⟨_, rfl⟩
          obtain ⟨wx, hwx⟩ : ∃ z, v[k - a].weight = z := ⟨_, rfl⟩
          rw [hv1] at x0
          rw [hwu] at x1
          rw [hv2] at y0
          rw [hwx] at y1
          have hfr := hAr1.fr
          have i1 : ((k : Int)) < N := by omega
          have i2 : ((k : Int) + 1) < N := by omega
          have HV := Lib.hid (And.intro (And.intro hv1 hwu) (And.intro hv2 hwx))
          obtain ⟨z0, z1, z2⟩ := swap_cells (v1 := .slice A2 n2 c2) (v2 := .int .i64 wx) (v3 := .slice A1 n1 c1) (show k ≠ k + 1 by omega) y0 y1
          clear hv1 hv2 hwu hwx l1 e2 hAr1 hAr2
          have mx := mixed
          have HL := Lib.hid hlt
          have ht3 : (i : Int) - 1 = e := ht1
          go_wp2
          go_big_region_o
          have HG := Lib.hid hgr
          clear hgr x0 x1 y0 y1 z0 z1 z2 hfr
          go_wp2
          go_roundw
          case rel =>
            refine ⟨k + 1, by go_num, by omega, HL.out, ?_, HG.out.trans (swap_grown _ _ _ _ _ _ _ _)⟩
            have h1 := hS.out
            unfold putElt at h1
            rw [HV.out.1.1, HV.out.1.2, HV.out.2.1, HV.out.2.2] at h1
            have e3 : p ++ (v.take (k + 1 - a) ++ x :: v.drop (k + 1 - a)) ++ q = (p ++ v.take (k - a)) ++ v[k - a] :: ([] ++ x :: (v.drop (k - a + 1) ++ q)) := by
              rw [show k + 1 - a = k - a + 1 by omega, List.take_succ_eq_append_getElem hkv]; simp only [List.append_assoc, List.cons_append, List.nil_append]
            show Arr _ _ _
            rw [e3]
            exact h1.drewN 1
          case measure => have := HL.out; simp [intOf]; omega
        · have hk' : k = e := by omega
          have HK := Lib.hid hk'
          have HG := Lib.hid hgr
          clear hk' hgr hlt
          have ht3 : ¬ k < e := by have := HK.out; omega
          go_wp2
          refine bodyPost_ret (results_none rfl _ _ _) rfl ⟨rfl, ⟨v.take t ++ x :: v.drop t, ?_, ?_, HSp.out.sorted hv⟩, (grown_b hbw _).trans HG.out⟩
          · have h1 := hAr.out
            rwa [show k - a = t by have := HK.out; have := HE.out; omega] at h1
          · refine List.perm_middle.trans ?_
            rw [List.take_append_drop]
end Go.Proofs.YtlhdndnohmikeaaGreatDoor

set_option linter.unusedVariables false
set_option linter.unusedSimpArgs false
namespace Go.Proofs.YtlhdndnohmikeaaGreatDoor
open Go.RowKit

theorem Arr.swap' {w : World} {B i j : Nat} {l m r : List Elt} {y z : Elt} (h : Arr w B (l ++ y :: (m ++ z :: r))) (hi : i = l.length) (hj : j = l.length + 1 + m.length) :
    Arr (putElt (putElt w B j y) B i z) B (l ++ z :: (m ++ y :: r)) := by
  subst hi hj
  have h1 := h.set (i := l.length + 1 + m.length) y (by simp; omega) (h.sl y (by simp))
  have e1 : (l ++ y :: (m ++ z :: r)).set (l.length + 1 + m.length) y = l ++ y :: (m ++ y :: r) := by
    rw [List.set_append_right _ _ (by omega), show l.length + 1 + m.length - l.length = m.length + 1 by omega]
    simp
  rw [e1] at h1
  have h2 := h1.set (i := l.length) z (by simp) (h.sl z (by simp))
  have e2 : (l ++ y :: (m ++ y :: r)).set l.length z = l ++ z :: (m ++ y :: r) := by simp
  rw [e2] at h2
  exact h2
theorem get_ahead {p u q : List Elt} {a i : Nat} (ha : p.length = a) (hi : a ≤ i) (hl : i - a < u.length) : (p ++ u ++ q)[i]? = some u[i - a] := by
  rw [List.append_assoc, List.getElem?_append_right (by omega), ha, List.getElem?_append_left hl, List.getElem?_eq_getElem hl]

set_option maxRecDepth 100000 in
set_option maxHeartbeats 2000000 in
theorem mergeL_calls (w0 : World) (B C N cap a m b : Nat) (cf : Elt → Elt → Int) (S : Elt → Prop) (hcmp : Cmp w0 B C cf S) (p v q : List Elt) (x : Elt) (hN : (p ++ v ++ x :: q).length = N) (hc : N ≤ 4611686018427387903) (ha : p.length = a) (hm : a + v.length = m) (hm1 : v.length ≠ 1) (hb : m + 1 = b)
    (hv : Sorted cf v) (hS : ∀ y ∈ v, S y) (hx : S x) (w : World) (hw : w0.grownBy w (some B)) (hB : B < w0.heap.size) (hA : Arr w B (p ++ v ++ x :: q)) :
    Calls Tryz.prog 158 #[.slice (some ⟨B, 0, none⟩) N cap, .int .i64 a, .int .i64 m, .int .i64 b, .func (.func 73) #[] #[.pointer (some ⟨C, 0, none⟩)]] w fun e w' =>
      e = .returned (.tuple #[]) ∧ (∃ r, Arr w' B (p ++ r ++ q) ∧ r.Perm (v ++ [x]) ∧ Sorted cf r) ∧ w.grownBy w' (some B) := by
  have hbN : b ≤ N := by simp at hN; omega
  have HN := Lib.hid (show a + v.length = m from hm)
  have HP := Lib.hid ha
  have e0 : ((m : Int) - a == 1) = false := beq_false_ (by omega)
  have e1 : (b : Int) - m = 1 := by omega
  have haN : m < N := by omega
  have hmb : a ≤ m := by omega
  have hBw : Hid (B < w.heap.size) := Nat.lt_of_lt_of_le hB hw.size
  have hsp : Hid (Split cf x v (a - a) (m - a)) := ⟨by omega, by omega, by simp, by rw [show m - a = v.length by omega]; simp⟩
  clear hN ha hb hm hB hm1
  go_enter Tryz.func158, Tryz.ntmps158
  go_wp2
  go_loopw [14, 15] (fun vi vj wr => ∃ i j : Nat, vi = .int .i64 i ∧ vj = .int .i64 j ∧ a ≤ i ∧ i ≤ j ∧ j ≤ m ∧ Hid (Split cf x v (i - a) (j - a)) ∧ Below w.heap.size w wr) (fun vi vj _ => (intOf vj).toNat - (intOf vi).toNat)
  case atStart => exact ⟨a, m, rfl, rfl, Nat.le_refl _, hmb, Nat.le_refl _, hsp, Below.refl _ _⟩
  case round =>
    obtain ⟨i, j, rfl, rfl, hmi, hij, hjn, hSp, hbw⟩ := hrel
    by_cases hlt : i < j
    · obtain ⟨h, hh⟩ : ∃ h, (i + j) / 2 = h := ⟨_, rfl⟩
      have hh1 : ((i : Int) + j) / 2 = h := by omega
      have hih : i ≤ h := by omega
      have hhj : h < j := by omega
      have hhN : h < N := by omega
      have hkv : h - a < v.length := by have := HN.out; omega
      have hAw := hA.below hbw hBw.out
      obtain ⟨y0, y1, _⟩ := hAw.at_ (get_ahead HP.out (by omega) hkv)
      obtain ⟨x0, x1, _⟩ := hAw.at_ (i := m) (y := x) (by rw [← HN.out, ← HP.out]; simp)
      have hCC : ∀ W : World, Below wr.heap.size wr W → Calls Tryz.prog 73 #[.agg #[x.val, .int .i64 x.weight], .agg #[v[h - a].val, .int .i64 v[h - a].weight], .pointer (some ⟨C, 0, none⟩)] W fun e w' => e = .returned (.int .i64 (cf x v[h - a])) ∧ Below W.heap.size W w' := fun W hW =>
        hcmp.call W _ _ ((hw.trans (grown_b hbw _)).trans (grown_b hW _)) hx (hS _ (List.getElem_mem hkv))
      have hup : Hid (¬ cf x v[h - a] < 0 → Split cf x v (h + 1 - a) (j - a)) := fun hl => by
        have := hSp.out.up hcmp hv hS hx (show h - a < j - a by omega) hkv (by omega) (by omega)
        rwa [show h + 1 - a = h - a + 1 by omega]
      have hdn : Hid (cf x v[h - a] < 0 → Split cf x v (i - a) (h - a)) := fun hl => hSp.out.down hcmp hv hS hx (by omega) hkv (hcmp.asym _ _ hx (hS _ (List.getElem_mem hkv)) hl)
      obtain ⟨vy, hvy⟩ : ∃ z, v[h - a].val = z := ⟨_, rfl⟩
      obtain ⟨wy, hwy⟩ : ∃ z, v[h - a].weight = z := ⟨_, rfl⟩
      obtain ⟨cv, hcv⟩ : ∃ z, cf x v[h - a] = z := ⟨_, rfl⟩
      rw [hvy] at y0 hCC
      rw [hwy] at y1 hCC
      rw [hcv] at hup hdn hCC
      obtain ⟨lb, hlb⟩ : ∃ z, decide (cv < 0) = z := ⟨_, rfl⟩
      have CC := Lib.hid hCC
      clear hvy hwy hcv hCC hAw
      have z0 := fun p : Later wr => later_cell x0 p
      have z1 := fun p : Later wr => later_cell x1 p
      have z2 := fun p : Later wr => later_cell y0 p
      have z3 := fun p : Later wr => later_cell y1 p
      go_wp2
      refine wp_region_later mixed (by kernel_rfl) ?_
      repeat (go_big_quiet_step ((go_at_call 73; exact later_of (CC.out _ (Later.below _)))))
      refine wpQuiet_nil ?_
      intro w2 hw2
      have hb2 := later_below hw2
      clear hw2 z0 z1 z2 z3 x0 x1 y0 y1
      have HLB : Hid (decide (cv < 0) = lb) := hlb
      clear hlb
      cases lb
      · have hs2 := Lib.hid (hup.out (by have := of_decide_eq_false HLB.out; omega))
        have HMs := Lib.hid (show (intOf (.int .i64 j)).toNat - (intOf (.int .i64 ((h : Int) + 1))).toNat < (intOf (.int .i64 j)).toNat - (intOf (.int .i64 i)).toNat by simp [intOf]; omega)
        clear hh1 hh hup hdn
        go_wp2
        go_roundw
        case rel => exact ⟨h + 1, j, by go_num, rfl, by omega, by omega, hjn, hs2, bel_trans hbw hb2⟩
        case measure => exact HMs.out
      · have hs2 := Lib.hid (hdn.out (of_decide_eq_true HLB.out))
        have HMs := Lib.hid (show (intOf (.int .i64 h)).toNat - (intOf (.int .i64 i)).toNat < (intOf (.int .i64 j)).toNat - (intOf (.int .i64 i)).toNat by simp [intOf]; omega)
        clear hh1 hh hup hdn
        go_wp2
        go_roundw
        case rel => exact ⟨i, h, rfl, rfl, hmi, hih, by omega, hs2, bel_trans hbw hb2⟩
        case measure => exact HMs.out
    · have hij' : i = j := by omega
      subst hij'
      rename World => wo
      have HSp := hSp
      have hAw := hA.below hbw hBw.out
      have hst : Hid (Arr wo B (p ++ (v.take (m - a) ++ x :: v.drop (m - a)) ++ q)) := by
        show Arr _ _ _
        rw [show m - a = v.length by have := HN.out; omega]
        simpa using hAw
      have HMI := Lib.hid (And.intro hmi hjn)
      clear hSp hij hlt hAw
      go_wp2
      go_loopw [17] (fun vi wr => ∃ k : Nat, vi = .int .i64 k ∧ i ≤ k ∧ k ≤ m ∧ Hid (Arr wr B (p ++ (v.take (k - a) ++ x :: v.drop (k - a)) ++ q)) ∧ wo.grownBy wr (some B)) (fun vi _ => (intOf vi).toNat)
      case atStart => exact ⟨m, rfl, hjn, Nat.le_refl _, hst, grown_b (Below.refl _ _) _⟩
      case round =>
        obtain ⟨k, rfl, hak, hke, hAr, hgr⟩ := hrel
        by_cases hlt : i < k
        · obtain ⟨k', hk'⟩ : ∃ k', k = k' + 1 := ⟨k - 1, by omega⟩
          have hkv : k' - a < v.length := by have := HN.out; omega
          have hka : a ≤ k' := by omega
          have e2 : p ++ (v.take (k - a) ++ x :: v.drop (k - a)) ++ q = (p ++ v.take (k' - a)) ++ v[k' - a] :: ([] ++ x :: (v.drop (k - a) ++ q)) := by
            rw [show k - a = k' - a + 1 by omega, List.take_succ_eq_append_getElem hkv]; simp only [List.append_assoc, List.cons_append, List.nil_append]
          have hAr1 := hAr.out
          rw [e2] at hAr1
          have l1 : k' = (p ++ v.take (k' - a)).length := by have := HP.out; simp; omega
          have hS' := Lib.hid (hAr1.swap' l1 (show k = (p ++ v.take (k' - a)).length + 1 + ([] : List Elt).length by rw [← l1]; exact hk'))
          obtain ⟨y0, y1⟩ := hAr1.at_mid l1
          have hAr2 : Arr wr B ((p ++ v.take (k' - a) ++ [v[k' - a]]) ++ x :: (v.drop (k - a) ++ q)) := by
            have e5 : (p ++ v.take (k' - a) ++ [v[k' - a]]) ++ x :: (v.drop (k - a) ++ q) = (p ++ v.take (k' - a)) ++ v[k' - a] :: ([] ++ x :: (v.drop (k - a) ++ q)) := by simp only [List.append_assoc, List.cons_append, List.nil_append]
            rw [e5]; exact hAr1
          obtain ⟨x0, x1⟩ := hAr2.at_mid (i := k) (by rw [List.length_append, ← l1]; exact hk')
          obtain ⟨A1, n1, c1, hv1⟩ := hAr2.sl x (List.mem_append_right _ (List.mem_cons_self ..))
          obtain ⟨A2, n2, c2, hv2⟩ := hAr1.sl v[k' - a] (List.mem_append_right _ (List.mem_cons_self ..))
          obtain ⟨wu, hwu⟩ : ∃ z, x.weight = z := ⟨_, rfl⟩
          obtain ⟨wx, hwx⟩ : ∃ z, v[k' - a].weight = z := ⟨_, rfl⟩
          rw [hv1] at x0
          rw [hwu] at x1
          rw [hv2] at y0
          rw [hwx] at y1
          have hfr := hAr1.fr
          have i1 : ((k : Int)) < N := by omega
          have i2 : ((k' : Int)) < N := by omega
          have HV := Lib.hid (And.intro (And.intro hv1 hwu) (And.intro hv2 hwx))
          obtain ⟨z0, z1, z2⟩ := swap_cells (v1 := .slice A2 n2 c2) (v2 := .int .i64 wx) (v3 := .slice A1 n1 c1) (show k ≠ k' by omega) y0 y1
          have ik : (k : Int) - 1 = k' := by omega
          have HK := Lib.hid hk'
          clear hv1 hv2 hwu hwx l1 e2 hAr1 hAr2 hk'
          have mx := mixed
          have HL := Lib.hid hlt
          go_wp2
          go_big_region_o
          have HG := Lib.hid hgr
          clear hgr x0 x1 y0 y1 z0 z1 z2 hfr
          go_wp2
          go_roundw
          case rel =>
            refine ⟨k', by go_num, by have := HK.out; have := HL.out; omega, by have := HK.out; omega, ?_, HG.out.trans (swap_grown _ _ _ _ _ _ _ _)⟩
            have h1 := hS'.out
            unfold putElt at h1
            rw [HV.out.1.1, HV.out.1.2, HV.out.2.1, HV.out.2.2] at h1
            have e3 : p ++ (v.take (k' - a) ++ x :: v.drop (k' - a)) ++ q = (p ++ v.take (k' - a)) ++ x :: ([] ++ v[k' - a] :: (v.drop (k - a) ++ q)) := by
              have d1 : v.drop (k' - a) = v[k' - a] :: v.drop (k - a) := by rw [show k - a = k' - a + 1 by have := HK.out; omega]; exact List.drop_eq_getElem_cons hkv
              rw [d1]; simp only [List.append_assoc, List.cons_append, List.nil_append]
            show Arr _ _ _
            rw [e3]
            exact h1.drewN 1
          case measure => have := HK.out; simp [intOf]; omega
        · have hk' : k = i := by omega
          have HK := Lib.hid hk'
          have HG := Lib.hid hgr
          clear hk' hgr hlt
          have ht3 : ¬ i < k := by have := HK.out; omega
          have ht4 : decide (i < k) = false := decide_eq_false ht3
          go_wp2
          refine bodyPost_ret (results_none rfl _ _ _) rfl ⟨rfl, ⟨v.take (i - a) ++ x :: v.drop (i - a), ?_, ?_, HSp.out.sorted hv⟩, (grown_b hbw _).trans HG.out⟩
          · have h1 := hAr.out
            rwa [HK.out] at h1
          · refine List.perm_middle.trans ?_
            rw [List.take_append_drop]
            exact (List.perm_append_comm (l₁ := v) (l₂ := [x])).symm
end Go.Proofs.YtlhdndnohmikeaaGreatDoor
