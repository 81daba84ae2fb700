/-
  Walks: the stable sort of pairs (7): merges joined; insertion.
  Walks: the stable sort of pairs (8): the whole.
-/
import Derived.Test.YtlhdndnohmikeaaGreatDoorW17
set_option linter.unusedVariables false
set_option linter.unusedSimpArgs false
namespace Go.Proofs.YtlhdndnohmikeaaGreatDoor
open Go.RowKit

theorem sym_ok {w0 : World} {B C N cap : Nat} {cf : Elt → Elt → Int} {S : Elt → Prop} (hcmp : Cmp w0 B C cf S) (hc : N ≤ 4611686018427387903) (hB : B < w0.heap.size) : ∀ n, SymOK w0 B C N cap cf S n
  | 0 => fun a m b p u v q w hn _ _ _ _ hu => by omega
  | n + 1 => fun a m b p u v q w hn hN ha hm hb hu hv hus hvs hS hw hA => by
    have hSu : ∀ x ∈ u, S x := fun x hx => hS x (List.mem_append_left _ hx)
    have hSv : ∀ x ∈ v, S x := fun x hx => hS x (List.mem_append_right _ hx)
    by_cases hu1 : u.length = 1
    · obtain ⟨x, rfl⟩ := List.length_eq_one_iff.1 hu1
      refine (merge1_calls w0 B C N cap a m b cf S hcmp p v q x (by simpa using hN) hc ha (by simpa using hm) hb hvs hSv (hSu x (by simp)) w hw hB (by simpa using hA)).mono ?_
      rintro e w' ⟨rfl, ⟨r, h1, h2, h3⟩, h4⟩
      exact ⟨rfl, ⟨r, h1, by simpa using h2, h3⟩, h4⟩
    · by_cases hv1 : v.length = 1
      · obtain ⟨x, rfl⟩ := List.length_eq_one_iff.1 hv1
        refine (mergeL_calls w0 B C N cap a m b cf S hcmp p u q x (by simpa using hN) hc ha hm hu1 (by simpa using hb) hus hSu (hSv x (by simp)) w hw hB (by simpa using hA)).mono ?_
        rintro e w' ⟨rfl, ⟨r, h1, h2, h3⟩, h4⟩
        exact ⟨rfl, ⟨r, h1, h2, h3⟩, h4⟩
      · exact sym_step hcmp (sym_ok hcmp hc hB n) hc hB a m b p u v q w hn hN ha hm hb (by omega) (by omega) hus hvs hSu hSv hw hA

theorem ins_sorted {cf : Elt → Elt → Int} {r r1 r2 : List Elt} {x : Elt} (hr : Sorted cf r) (he : r1 ++ r2 = r) (h1 : ∀ y ∈ r1, 0 ≤ cf x y) (h2 : ∀ y ∈ r2, 0 ≤ cf y x) : Sorted cf (r1 ++ x :: r2) := by
  unfold Sorted at hr ⊢
  rw [← he, List.pairwise_append] at hr
  rw [List.pairwise_append, List.pairwise_cons]
  refine ⟨hr.1, ⟨h2, hr.2.1⟩, fun y hy z hz => ?_⟩
  rcases List.mem_cons.1 hz with rfl | hz
  · exact h1 y hy
  · exact hr.2.2 y hy z hz
set_option maxRecDepth 100000 in
set_option maxHeartbeats 2000000 in
theorem insertion_calls (w0 : World) (B C N cap a b : Nat) (cf : Elt → Elt → Int) (S : Elt → Prop) (hcmp : Cmp w0 B C cf S) (p v q : List Elt) (hN : (p ++ v ++ q).length = N) (hc : N ≤ 4611686018427387903) (ha : p.length = a) (hb : a + v.length = b)
    (hS : ∀ y ∈ v, S y) (w : World) (hw : w0.grownBy w (some B)) (hB : B < w0.heap.size) (hA : Arr w B (p ++ v ++ q)) :
    Calls Tryz.prog 157 #[.slice (some ⟨B, 0, none⟩) N cap, .int .i64 a, .int .i64 b, .func (.func 73) #[] #[.pointer (some ⟨C, 0, none⟩)]] w fun e w' => e = .returned (.tuple #[]) ∧ Merged B cf p v q w w' := by
  have hbN : b ≤ N := by simp at hN; omega
  have HN := Lib.hid (show p.length = a ∧ a + v.length = b from ⟨ha, hb⟩)
  have hab : a ≤ b := by omega
  have hBw : Hid (B < w.heap.size) := Nat.lt_of_lt_of_le hB hw.size
  have hst : Hid (∃ r, Arr w B (p ++ r ++ v.drop (a + 1 - a) ++ q) ∧ r.Perm (v.take (a + 1 - a)) ∧ Sorted cf r) := by
    refine ⟨v.take 1, ?_, ?_, ?_⟩
    · rw [show a + 1 - a = 1 by omega]
      rw [List.append_assoc p, List.take_append_drop]; exact hA
    · rw [show a + 1 - a = 1 by omega]
    · cases v with
      | nil => exact Sorted.nil _
      | cons x xs => exact List.pairwise_singleton _ _
  clear hN ha hb hB hA
  go_enter Tryz.func157, Tryz.ntmps157
  go_wp2
  go_loopw [8] (fun vi wr => ∃ i : Nat, vi = .int .i64 i ∧ a + 1 ≤ i ∧ i ≤ b + 1 ∧ Hid (∃ r, Arr wr B (p ++ r ++ v.drop (i - a) ++ q) ∧ r.Perm (v.take (i - a)) ∧ Sorted cf r) ∧ w.grownBy wr (some B)) (fun vi _ => b + 1 - (intOf vi).toNat)
  case atStart => exact ⟨a + 1, by go_num, Nat.le_refl _, by omega, hst, grown_b (Below.refl _ _) _⟩
  case round =>
    obtain ⟨i, rfl, hai, hib, hI, hgr⟩ := hrel
    by_cases hlt : i < b
    · rename World => wo
      obtain ⟨r, hAr, hp, hr⟩ := hI.out
      have hiv : i - a < v.length := by have := HN.out; omega
      have lr : r.length = i - a := by rw [hp.length_eq, List.length_take]; omega
      have hSr : ∀ y ∈ r, S y := fun y hy => hS y (List.mem_of_mem_take (hp.mem_iff.1 hy))
      obtain ⟨x, hx⟩ : ∃ x, v[i - a] = x := ⟨_, rfl⟩
      have hSx : S x := hx ▸ hS _ (List.getElem_mem hiv)
      have hd : v.drop (i - a) = x :: v.drop (i + 1 - a) := by rw [List.drop_eq_getElem_cons hiv, hx, show i + 1 - a = i - a + 1 by omega]
      have htk : v.take (i + 1 - a) = v.take (i - a) ++ [x] := by rw [show i + 1 - a = i - a + 1 by omega, List.take_succ_eq_append_getElem hiv, hx]
      -- x goes down to its place among r
      have hst2 : Hid (∃ r1 r2, r1 ++ r2 = r ∧ r1.length = i - a ∧ Arr wo B (p ++ r1 ++ x :: (r2 ++ (v.drop (i + 1 - a) ++ q))) ∧ ∀ y ∈ r2, 0 ≤ cf y x) := ⟨r, [], by simp, lr, by rw [hd] at hAr; simpa using hAr, by simp⟩
      have HP := Lib.hid (And.intro hp (And.intro hr htk))
      have HG := Lib.hid hgr
      have HL := Lib.hid hlt
      clear hI hAr hp hr lr hx hd htk hgr hiv
      go_wp2
      go_loopw [9] (fun vj wr => ∃ j : Nat, vj = .int .i64 j ∧ a ≤ j ∧ j ≤ i ∧ Hid (∃ r1 r2, r1 ++ r2 = r ∧ r1.length = j - a ∧ Arr wr B (p ++ r1 ++ x :: (r2 ++ (v.drop (i + 1 - a) ++ q))) ∧ ∀ y ∈ r2, 0 ≤ cf y x) ∧ wo.grownBy wr (some B)) (fun vj _ => (intOf vj).toNat)
      case atStart => exact ⟨i, rfl, by omega, Nat.le_refl _, hst2, grown_b (Below.refl _ _) _⟩
      case round =>
        obtain ⟨j, rfl, haj, hji, hJ, hgr⟩ := hrel
        by_cases hja : a < j
        · obtain ⟨k, hk⟩ : ∃ k, j = k + 1 := ⟨j - 1, by omega⟩
          have hk1 : (j : Int) - 1 = k := by omega
          have hka : a ≤ k := by omega
          obtain ⟨r1, r2, hr12, hl1, hAr, h2⟩ := hJ.out
          obtain ⟨y, hy, hr1⟩ := last_take (l := r1) (t := r1.length) (Nat.le_refl _) (by omega)
          rw [List.take_length] at hr1
          obtain ⟨r1', hr1'⟩ : ∃ r1', r1.take (r1.length - 1) = r1' := ⟨_, rfl⟩
          rw [hr1'] at hr1
          have lr1 : r1'.length = k - a := by rw [← hr1', List.length_take]; omega
          have e2 : p ++ r1 ++ x :: (r2 ++ (v.drop (i + 1 - a) ++ q)) = (p ++ r1') ++ y :: ([] ++ x :: (r2 ++ (v.drop (i + 1 - a) ++ q))) := by
            rw [hr1]; simp only [List.append_assoc, List.cons_append, List.nil_append]
          rw [e2] at hAr
          have l1 : k = (p ++ r1').length := by have := HN.out; rw [List.length_append]; omega
          have hS' := Lib.hid (hAr.swap' l1 (show j = (p ++ r1').length + 1 + ([] : List Elt).length by rw [← l1]; exact hk))
          obtain ⟨y0, y1⟩ := hAr.at_mid l1
          have hAr2 : Arr wr B ((p ++ r1' ++ [y]) ++ x :: (r2 ++ (v.drop (i + 1 - a) ++ q))) := by
            have e5 : (p ++ r1' ++ [y]) ++ x :: (r2 ++ (v.drop (i + 1 - a) ++ q)) = (p ++ r1') ++ y :: ([] ++ x :: (r2 ++ (v.drop (i + 1 - a) ++ q))) := by simp only [List.append_assoc, List.cons_append, List.nil_append]
            rw [e5]; exact hAr
          obtain ⟨x0, x1⟩ := hAr2.at_mid (i := j) (by rw [List.length_append, ← l1]; exact hk)
          obtain ⟨A1, n1, c1, hv1⟩ := hAr2.sl x (List.mem_append_right _ (List.mem_cons_self ..))
          obtain ⟨A2, n2, c2, hv2⟩ := hAr.sl y (List.mem_append_right _ (List.mem_cons_self ..))
          have hSy : S y := hSr y (by rw [← hr12, hr1]; simp)
          have hCC : ∀ W : World, Below wr.heap.size wr W → Calls Tryz.prog 73 #[.agg #[x.val, .int .i64 x.weight], .agg #[y.val, .int .i64 y.weight], .pointer (some ⟨C, 0, none⟩)] W fun e w' => e = .returned (.int .i64 (cf x y)) ∧ Below W.heap.size W w' := fun W hW =>
            hcmp.call W _ _ (((hw.trans HG.out).trans hgr).trans (grown_b hW _)) hSx hSy
          obtain ⟨wu, hwu⟩ : ∃ z, x.weight = z := ⟨_, rfl⟩
          obtain ⟨wx, hwx⟩ : ∃ z, y.weight = z := ⟨_, rfl⟩
          obtain ⟨cv, hcv⟩ : ∃ z, cf x y = z := ⟨_, rfl⟩
          rw [hv1] at x0
          rw [hwu] at x1
          rw [hv2] at y0
          rw [hwx] at y1
          rw [hv1, hwu, hv2, hwx, hcv] at hCC
          have hfr := hAr.fr
          have i1 : ((j : Int)) < N := by omega
          have i2 : ((k : Int)) < N := by omega
          have HV := Lib.hid (And.intro (And.intro hv1 hwu) (And.intro hv2 hwx))
          obtain ⟨lb, hlb⟩ : ∃ z, decide (cv < 0) = z := ⟨_, rfl⟩
          have CC := Lib.hid hCC
          have z0 := fun p : Later wr => later_cell x0 p
          have z1 := fun p : Later wr => later_cell x1 p
          have z2 := fun p : Later wr => later_cell y0 p
          have z3 := fun p : Later wr => later_cell y1 p
          have gja : decide (a < j) = true := decide_eq_true hja
          have HR := Lib.hid (show r1' ++ y :: r2 = r ∧ r1'.length = k - a ∧ r1 = r1' ++ [y] ∧ j = k + 1 ∧ cf x y = cv ∧ (r1' ++ [y]) ++ r2 = r from ⟨by rw [← hr12, hr1]; simp, lr1, hr1, hk, hcv, by rw [← hr12, hr1]⟩)
          have HA2 := Lib.hid hAr2
          have HX := Lib.hid (show wr.cell? ⟨B, j * 2, none⟩ = some (.slice A1 n1 c1) ∧ wr.cell? ⟨B, j * 2 + 1, none⟩ = some (.int .i64 wu) ∧ wr.cell? ⟨B, k * 2, none⟩ = some (.slice A2 n2 c2) ∧ wr.cell? ⟨B, k * 2 + 1, none⟩ = some (.int .i64 wx) ∧ B < wr.heap.size from ⟨x0, x1, y0, y1, World.block_lt_of_cell? wr _ x0⟩)
          clear hv1 hv2 hwu hwx hcv hCC hk e2 hr1' hr1 hr12 hy l1 hAr hAr2 lr1 hl1
          go_wp2
          refine wp_region_later mixed (by kernel_rfl) ?_
          repeat (go_big_quiet_step ((go_at_call 73; exact later_of (CC.out _ (Later.below _)))))
          refine wpQuiet_nil ?_
          intro w2 hw2
          have hb2 := later_below hw2
          have HLB : Hid (decide (cv < 0) = lb) := hlb
          clear hw2 z0 z1 z2 z3 x0 x1 y0 y1 hlb
          rename World => w2
          cases lb
          · have HIN := Lib.hid (show ∃ r', Arr w2 B (p ++ r' ++ v.drop (i + 1 - a) ++ q) ∧ r'.Perm (v.take (i + 1 - a)) ∧ Sorted cf r' from by
              obtain ⟨q1, q2, q3, q4, q5, q6⟩ := HR.out
              have hsr := HP.out.2.1
              refine ⟨(r1' ++ [y]) ++ x :: r2, ?_, ?_, ins_sorted hsr q6 ?_ h2⟩
              · have := HA2.out.below hb2 HX.out.2.2.2.2
                simpa using this
              · refine List.perm_middle.trans ?_
                rw [q6, HP.out.2.2]
                exact (List.Perm.cons x HP.out.1).trans (List.perm_append_comm (l₁ := [x]))
              · intro z hz
                have hxy : 0 ≤ cf x y := by have := of_decide_eq_false HLB.out; omega
                rcases List.mem_append.1 hz with hz | hz
                · unfold Sorted at hsr
                  rw [← q1, List.pairwise_append] at hsr
                  have hSz : S z := hSr z (by rw [← q1]; exact List.mem_append_left _ hz)
                  exact hcmp.trans z y x hSz hSy hSx (hsr.2.2 z hz y (by simp)) hxy
                · simp at hz; rw [hz]; exact hxy)
            go_wp2
            go_roundw
            case rel => exact ⟨i + 1, by go_num, by omega, by have := HL.out; omega, HIN, (HG.out.trans hgr).trans (grown_b hb2 _)⟩
            case measure => have := HL.out; simp [intOf]; omega
          · have y0 := ((hb2.cell (p := ⟨B, k * 2, none⟩) HX.out.2.2.2.2)).trans HX.out.2.2.1
            have y1 := ((hb2.cell (p := ⟨B, k * 2 + 1, none⟩) HX.out.2.2.2.2)).trans HX.out.2.2.2.1
            have x0 := ((hb2.cell (p := ⟨B, j * 2, none⟩) HX.out.2.2.2.2)).trans HX.out.1
            have x1 := ((hb2.cell (p := ⟨B, j * 2 + 1, none⟩) HX.out.2.2.2.2)).trans HX.out.2.1
            have hfr2 : ∀ o, w2.frozen? ⟨B, o, none⟩ = false := fun o => ((hb2.frozen (p := ⟨B, o, none⟩) HX.out.2.2.2.2)).trans (hfr o)
            obtain ⟨z0, z1, z2⟩ := swap_cells (v1 := .slice A2 n2 c2) (v2 := .int .i64 wx) (v3 := .slice A1 n1 c1) (show j ≠ k by have := HR.out; omega) y0 y1
            have mx := mixed
            have hs3 := Lib.hid (show Arr (putElt (putElt w2 B j y) B k x) B ((p ++ r1') ++ x :: ([] ++ y :: (r2 ++ (v.drop (i + 1 - a) ++ q)))) from by
              have e5 : (p ++ r1' ++ [y]) ++ x :: (r2 ++ (v.drop (i + 1 - a) ++ q)) = (p ++ r1') ++ y :: ([] ++ x :: (r2 ++ (v.drop (i + 1 - a) ++ q))) := by simp only [List.append_assoc, List.cons_append, List.nil_append]
              have h1 := HA2.out.below hb2 HX.out.2.2.2.2
              rw [e5] at h1
              have l1 : k = (p ++ r1').length := by have := HN.out; have := HR.out.2.1; rw [List.length_append]; omega
              exact h1.swap' l1 (by rw [← l1]; exact HR.out.2.2.2.1))
            have HG2 := Lib.hid (hgr.trans (grown_b hb2 (some B)))
            clear hS' hfr hgr
            go_wp2
            go_big_region_o
            clear y0 y1 x0 x1 z0 z1 z2 hfr2
            go_wp2
            go_roundw
            case rel =>
              refine ⟨k, by go_num, hka, by have := HR.out; omega, ⟨r1', y :: r2, HR.out.1, HR.out.2.1, ?_, ?_⟩, HG2.out.trans (swap_grown _ _ _ _ _ _ _ _)⟩
              · have h1 := hs3.out
                unfold putElt at h1
                rw [HV.out.1.1, HV.out.1.2, HV.out.2.1, HV.out.2.2] at h1
                have e6 : p ++ r1' ++ x :: ((y :: r2) ++ (v.drop (i + 1 - a) ++ q)) = (p ++ r1') ++ x :: ([] ++ y :: (r2 ++ (v.drop (i + 1 - a) ++ q))) := by simp only [List.cons_append, List.nil_append]
                rw [e6]
                exact h1.drewN 1
              · intro z hz
                rcases List.mem_cons.1 hz with rfl | hz
                · have hlt0 : cf x z < 0 := by have := of_decide_eq_true HLB.out; have := HR.out.2.2.2.2.1; omega
                  exact hcmp.asym _ _ hSx hSy hlt0
                · exact h2 z hz
            case measure => have := HR.out; simp [intOf]; omega
        · have hja2 : j = a := by omega
          have gja : decide (a < j) = false := decide_eq_false (by omega)
          have HIN := Lib.hid (show ∃ r', Arr wr B (p ++ r' ++ v.drop (i + 1 - a) ++ q) ∧ r'.Perm (v.take (i + 1 - a)) ∧ Sorted cf r' from by
            obtain ⟨r1, r2, q1, q2, hAr, h2⟩ := hJ.out
            have : r1 = [] := List.eq_nil_of_length_eq_zero (by omega)
            subst this
            refine ⟨x :: r2, by simpa using hAr, ?_, ?_⟩
            · rw [HP.out.2.2]
              rw [List.nil_append] at q1
              rw [q1]
              exact (List.Perm.cons x HP.out.1).trans (List.perm_append_comm (l₁ := [x]))
            · have := ins_sorted (x := x) HP.out.2.1 q1 (by simp) h2
              simpa using this)
          clear hja2 hja hJ
          rename World => wq
          go_wp2
          refine wp_region_later mixed (by kernel_rfl) ?_
          repeat (go_big_quiet_step (fail))
          refine wpQuiet_nil ?_
          intro w2 hw2
          have hb2 := later_below hw2
          clear hw2
          rename World => w2
          have HIN2 := Lib.hid (show ∃ r', Arr w2 B (p ++ r' ++ v.drop (i + 1 - a) ++ q) ∧ r'.Perm (v.take (i + 1 - a)) ∧ Sorted cf r' from by
            obtain ⟨r', q1, q2⟩ := HIN.out
            exact ⟨r', q1.below hb2 (Nat.lt_of_lt_of_le hBw.out (Nat.le_trans HG.out.size hgr.size)), q2⟩)
          go_wp2
          go_roundw
          case rel => exact ⟨i + 1, by go_num, by omega, by have := HL.out; omega, HIN2, (HG.out.trans hgr).trans (grown_b hb2 _)⟩
          case measure => have := HL.out; simp [intOf]; omega
    · have HI2 := Lib.hid (show ∃ r, Arr wr B (p ++ r ++ q) ∧ r.Perm v ∧ Sorted cf r from by
        obtain ⟨r, h1, h2, h3⟩ := hI.out
        have hl := HN.out
        rw [List.drop_of_length_le (by omega)] at h1
        rw [List.take_of_length_le (by omega)] at h2
        exact ⟨r, by simpa using h1, h2, h3⟩)
      clear hI
      go_wp2
      go_end0
      exact ⟨rfl, HI2.out, hgr⟩
end Go.Proofs.YtlhdndnohmikeaaGreatDoor

set_option linter.unusedVariables false
set_option linter.unusedSimpArgs false
namespace Go.Proofs.YtlhdndnohmikeaaGreatDoor
open Go.RowKit

/-- Runs of k elements, each sorted; the last one may be shorter. -/
inductive Runs (cf : Elt → Elt → Int) (k : Nat) : List Elt → Prop
  | short {l : List Elt} : l.length ≤ k → Sorted cf l → Runs cf k l
  | more {u l : List Elt} : u.length = k → Sorted cf u → Runs cf k l → Runs cf k (u ++ l)
inductive Full (cf : Elt → Elt → Int) (k : Nat) : List Elt → Prop
  | nil : Full cf k []
  | more {u l : List Elt} : u.length = k → Sorted cf u → Full cf k l → Full cf k (u ++ l)
theorem Full.runs {cf : Elt → Elt → Int} {k : Nat} {d l : List Elt} (h : Full cf k d) (hl : Runs cf k l) : Runs cf k (d ++ l) := by
  induction h with
  | nil => simpa using hl
  | more h1 h2 _ ih => rw [List.append_assoc]; exact .more h1 h2 ih
theorem Full.snoc {cf : Elt → Elt → Int} {k : Nat} {d u : List Elt} (h : Full cf k d) (hu : u.length = k) (hs : Sorted cf u) : Full cf k (d ++ u) := by
  induction h with
  | nil => simpa using Full.more hu hs Full.nil
  | more h1 h2 _ ih => rw [List.append_assoc]; exact .more h1 h2 ih
theorem Runs.sorted {cf : Elt → Elt → Int} {k : Nat} {l : List Elt} (h : Runs cf k l) (hl : l.length ≤ k) : Sorted cf l := by
  cases h with
  | short _ h => exact h
  | @more u r h1 h2 h3 =>
    have : r = [] := List.eq_nil_of_length_eq_zero (by rw [List.length_append] at hl; omega)
    rw [this, List.append_nil]; exact h2
theorem Runs.split {cf : Elt → Elt → Int} {k : Nat} {l : List Elt} (h : Runs cf k l) (hl : k < l.length) : ∃ u r, l = u ++ r ∧ u.length = k ∧ Sorted cf u ∧ Runs cf k r := by
  cases h with
  | short h _ => omega
  | @more u r h1 h2 h3 => exact ⟨u, r, rfl, h1, h2, h3⟩
theorem Runs.two {cf : Elt → Elt → Int} {k : Nat} {l : List Elt} (h : Runs cf k l) (hk : 0 < k) (hl : 2 * k ≤ l.length) : ∃ u v r, l = u ++ v ++ r ∧ u.length = k ∧ v.length = k ∧ Sorted cf u ∧ Sorted cf v ∧ Runs cf k r := by
  obtain ⟨u, r, rfl, h1, h2, h3⟩ := h.split (by omega)
  rw [List.length_append] at hl
  by_cases hr : k < r.length
  · obtain ⟨v, r', rfl, h4, h5, h6⟩ := h3.split hr
    exact ⟨u, v, r', by simp, h1, h4, h2, h5, h6⟩
  · exact ⟨u, r, [], by simp, h1, by omega, h2, h3.sorted (by omega), .short (by simp) (Sorted.nil _)⟩

/-- How far the first pass is. -/
def Pass1 (B : Nat) (cf : Elt → Elt → Int) (xs : List Elt) (wr : World) (a : Nat) : Prop := ∃ d r, Arr wr B (d ++ r) ∧ d.length = a ∧ (d ++ r).Perm xs ∧ Full cf 20 d
/-- How far a pass of merges is. -/
def Pass2 (B : Nat) (cf : Elt → Elt → Int) (xs : List Elt) (wr : World) (bs a : Nat) : Prop := ∃ d r, Arr wr B (d ++ r) ∧ d.length = a ∧ (d ++ r).Perm xs ∧ Full cf (2 * bs) d ∧ Runs cf bs r

set_option maxRecDepth 100000 in
set_option maxHeartbeats 2000000 in
theorem stable_calls (w : World) (B C N cap : Nat) (cf : Elt → Elt → Int) (S : Elt → Prop) (hcmp : Cmp w B C cf S) (xs : List Elt) (hN : xs.length = N) (hc : N ≤ 1152921504606846975) (hS : ∀ y ∈ xs, S y) (hB : B < w.heap.size) (hA : Arr w B xs) :
    Calls Tryz.prog 120 #[.slice (some ⟨B, 0, none⟩) N cap, .int .i64 N, .func (.func 73) #[] #[.pointer (some ⟨C, 0, none⟩)]] w fun e w' => e = .returned (.tuple #[]) ∧ (∃ r, Arr w' B r ∧ r.Perm xs ∧ Sorted cf r) ∧ w.grownBy w' (some B) := by
  have HN := Lib.hid hN
  have h0 : Hid (Pass1 B cf xs w 0) := ⟨[], xs, by simpa using hA, rfl, by simp, .nil⟩
  have INS := Lib.hid (fun (a b : Nat) (p v q : List Elt) (hN : (p ++ v ++ q).length = N) (ha : p.length = a) (hb : a + v.length = b) (hS : ∀ y ∈ v, S y) (W : World) (hw : w.grownBy W (some B)) (hA : Arr W B (p ++ v ++ q)) => insertion_calls w B C N cap a b cf S hcmp p v q hN (by omega) ha hb hS W hw hB hA)
  have SYM := Lib.hid (fun n => sym_ok (N := N) (cap := cap) hcmp (by omega) hB n)
  have H0 : Hid (∀ W a, Pass1 B cf xs W a → a + 20 ≤ N → w.grownBy W (some B) → Calls Tryz.prog 157 #[.slice (some ⟨B, 0, none⟩) N cap, .int .i64 a, .int .i64 ((a + 20 : Nat) : Int), .func (.func 73) #[] #[.pointer (some ⟨C, 0, none⟩)]] W fun e w' => e = .returned (.tuple #[]) ∧ Pass1 B cf xs w' (a + 20) ∧ W.grownBy w' (some B)) := fun W a ⟨d, r, h1, h2, h3, h4⟩ ha hw => by
    have hl : d.length + r.length = N := by rw [← HN.out, ← h3.length_eq, List.length_append]
    have lt : (r.take 20).length = 20 := by rw [List.length_take]; omega
    have e : d ++ r.take 20 ++ r.drop 20 = d ++ r := by rw [List.append_assoc, List.take_append_drop]
    refine (INS.out a (a + 20) d (r.take 20) (r.drop 20) (by rw [e, List.length_append]; exact hl) h2 (by omega) (fun y hy => hS y (h3.mem_iff.1 (List.mem_append_right _ (List.mem_of_mem_take hy)))) W hw (by rw [e]; exact h1)).mono ?_
    rintro e1 w1 ⟨rfl, ⟨r1, k1, k2, k3⟩, k4⟩
    refine ⟨rfl, ⟨d ++ r1, r.drop 20, k1, by rw [List.length_append, k2.length_eq, lt, h2], ?_, h4.snoc (by rw [k2.length_eq, lt]) k3⟩, k4⟩
    refine List.Perm.trans ?_ h3
    rw [← e]
    exact (k2.append_left d).append_right _
  have H1 : Hid (∀ W a, Pass1 B cf xs W a → a ≤ N → N < a + 20 → w.grownBy W (some B) → Calls Tryz.prog 157 #[.slice (some ⟨B, 0, none⟩) N cap, .int .i64 a, .int .i64 N, .func (.func 73) #[] #[.pointer (some ⟨C, 0, none⟩)]] W fun e w' => e = .returned (.tuple #[]) ∧ Pass2 B cf xs w' 20 0 ∧ W.grownBy w' (some B)) := fun W a ⟨d, r, h1, h2, h3, h4⟩ ha ha' hw => by
    have hl : d.length + r.length = N := by rw [← HN.out, ← h3.length_eq, List.length_append]
    refine (INS.out a N d r [] (by rw [List.append_nil, List.length_append]; exact hl) h2 (by omega) (fun y hy => hS y (h3.mem_iff.1 (List.mem_append_right _ hy))) W hw (by rw [List.append_nil]; exact h1)).mono ?_
    rintro e1 w1 ⟨rfl, ⟨r1, k1, k2, k3⟩, k4⟩
    rw [List.append_nil] at k1
    exact ⟨rfl, ⟨[], d ++ r1, k1, rfl, (k2.append_left d).trans h3, .nil, h4.runs (.short (by rw [k2.length_eq]; omega) k3)⟩, k4⟩
  have H2 : Hid (∀ W bs a, 0 < bs → Pass2 B cf xs W bs a → a + 2 * bs ≤ N → w.grownBy W (some B) → Calls Tryz.prog 158 #[.slice (some ⟨B, 0, none⟩) N cap, .int .i64 a, .int .i64 ((a + bs : Nat) : Int), .int .i64 ((a + 2 * bs : Nat) : Int), .func (.func 73) #[] #[.pointer (some ⟨C, 0, none⟩)]] W fun e w' => e = .returned (.tuple #[]) ∧ Pass2 B cf xs w' bs (a + 2 * bs) ∧ W.grownBy w' (some B)) := fun W bs a hbs ⟨d, r, h1, h2, h3, h4, h5⟩ ha hw => by
    have hl : d.length + r.length = N := by rw [← HN.out, ← h3.length_eq, List.length_append]
    obtain ⟨u, v, r', rfl, lu, lv, su, sv, hr'⟩ := h5.two hbs (by omega)
    have e : d ++ u ++ v ++ r' = d ++ (u ++ v ++ r') := by simp
    refine (SYM.out N a (a + bs) (a + 2 * bs) d u v r' W (by simp at hl; omega) (by rw [e, List.length_append]; exact hl) h2 (by omega) (by omega) (by omega) (by omega) su sv (fun y hy => hS y (h3.mem_iff.1 (by rw [← e]; simp at hy ⊢; rcases hy with hy | hy <;> simp [hy]))) hw (by rw [e]; exact h1)).mono ?_
    rintro e1 w1 ⟨rfl, ⟨r1, k1, k2, k3⟩, k4⟩
    have lr1 : r1.length = 2 * bs := by rw [k2.length_eq, List.length_append]; omega
    refine ⟨rfl, ⟨d ++ r1, r', k1, by rw [List.length_append]; omega, ?_, h4.snoc lr1 k3, hr'⟩, k4⟩
    refine List.Perm.trans ?_ h3
    rw [← e, List.append_assoc d u v]
    exact (k2.append_left d).append_right _
  have H3 : Hid (∀ W bs a, 0 < bs → Pass2 B cf xs W bs a → a + bs < N → N < a + 2 * bs → w.grownBy W (some B) → Calls Tryz.prog 158 #[.slice (some ⟨B, 0, none⟩) N cap, .int .i64 a, .int .i64 ((a + bs : Nat) : Int), .int .i64 N, .func (.func 73) #[] #[.pointer (some ⟨C, 0, none⟩)]] W fun e w' => e = .returned (.tuple #[]) ∧ Pass2 B cf xs w' (2 * bs) 0 ∧ W.grownBy w' (some B)) := fun W bs a hbs ⟨d, r, h1, h2, h3, h4, h5⟩ ha ha' hw => by
    have hl : d.length + r.length = N := by rw [← HN.out, ← h3.length_eq, List.length_append]
    obtain ⟨u, v, rfl, lu, su, hv⟩ := h5.split (by omega)
    have hl2 := hl
    rw [List.length_append] at hl2
    have e : d ++ u ++ v ++ [] = d ++ (u ++ v) := by simp
    refine (SYM.out N a (a + bs) N d u v [] W (by omega) (by rw [e, List.length_append]; exact hl) h2 (by omega) (by omega) (by omega) (by omega) su (hv.sorted (by omega)) (fun y hy => hS y (h3.mem_iff.1 (List.mem_append_right _ hy))) hw (by rw [e]; exact h1)).mono ?_
    rintro e1 w1 ⟨rfl, ⟨r1, k1, k2, k3⟩, k4⟩
    rw [List.append_nil] at k1
    exact ⟨rfl, ⟨[], d ++ r1, k1, rfl, (k2.append_left d).trans h3, .nil, h4.runs (.short (by rw [k2.length_eq, List.length_append]; omega) k3)⟩, k4⟩
  have H4 : Hid (∀ W bs a, Pass2 B cf xs W bs a → ¬ a + bs < N → Pass2 B cf xs W (2 * bs) 0) := fun W bs a ⟨d, r, h1, h2, h3, h4, h5⟩ ha => by
    have hl : d.length + r.length = N := by rw [← HN.out, ← h3.length_eq, List.length_append]
    exact ⟨[], d ++ r, h1, rfl, h3, .nil, h4.runs (.short (by omega) (h5.sorted (by omega)))⟩
  have H5 : Hid (∀ W bs, Pass2 B cf xs W bs 0 → ¬ bs < N → ∃ r, Arr W B r ∧ r.Perm xs ∧ Sorted cf r) := fun W bs ⟨d, r, h1, h2, h3, h4, h5⟩ ha => by
    have : d = [] := List.eq_nil_of_length_eq_zero h2
    subst this
    have hl := h3.length_eq
    rw [HN.out] at hl
    rw [List.nil_append] at hl h1 h3
    exact ⟨r, h1, h3, h5.sorted (by omega)⟩
  clear INS SYM hN hS hA
  go_enter Tryz.func120, Tryz.ntmps120
  go_wp2
  go_loopw [7, 8] (fun va vb wr => ∃ a : Nat, va = .int .i64 a ∧ vb = .int .i64 ((a + 20 : Nat) : Int) ∧ a ≤ N ∧ Hid (Pass1 B cf xs wr a) ∧ w.grownBy wr (some B)) (fun va _ _ => N - (intOf va).toNat)
  case atStart => exact ⟨0, by simp, by simp, by omega, h0, grown_b (Below.refl _ _) _⟩
  case round =>
    obtain ⟨a, rfl, rfl, haN, hP, hgr⟩ := hrel
    by_cases hlt : a + 20 ≤ N
    · have HC := Lib.hid (H0.out wr a hP.out hlt hgr)
      have HM := Lib.hid (show N - (intOf (.int .i64 ((a + 20 : Nat) : Int))).toNat < N - (intOf (.int .i64 (a : Int))).toNat by simp [intOf]; omega)
      go_wp2_with (go_at_call 157; refine HC.out.mono ?_; rintro e w1 ⟨rfl, hP1, hg1⟩; have HP1 := Lib.hid hP1; clear hP1)
      go_roundw
      case rel => exact ⟨a + 20, by go_num, by go_num, hlt, HP1, hgr.trans hg1⟩
      case measure => simp [intOf]; omega
    · have HC := Lib.hid (H1.out wr a hP.out haN (by omega) hgr)
      have HG := Lib.hid hgr
      clear hP hgr H0 H1
      rename World => wo
      go_wp2_with (go_at_call 157; refine HC.out.mono ?_; rintro e w1 ⟨rfl, hP1, hg1⟩; have HP1 := Lib.hid hP1; have HG1 := Lib.hid (HG.out.trans hg1); clear hP1 hg1)
      clear HC HG hlt haN
      go_loopw [6] (fun vs wr => ∃ bs : Nat, vs = .int .i64 bs ∧ 0 < bs ∧ bs ≤ 2 * N + 20 ∧ Hid (Pass2 B cf xs wr bs 0) ∧ w.grownBy wr (some B)) (fun vs _ => N - (intOf vs).toNat)
      case atStart => exact ⟨20, by simp, by omega, by omega, HP1, HG1.out⟩
      case round =>
        obtain ⟨bs, rfl, hbs, hbsN, hQ, hgr⟩ := hrel
        by_cases hlt : bs < N
        · rename World => wp
          have HQ2 := hQ
          have HG2 := Lib.hid hgr
          clear hQ hgr HP1 HG1
          have hbsz : (bs : Int) < N := by omega
          go_wp2
          go_loopw [7, 8] (fun va vb wr => ∃ a : Nat, va = .int .i64 a ∧ vb = .int .i64 ((a + 2 * bs : Nat) : Int) ∧ a ≤ N ∧ Hid (Pass2 B cf xs wr bs a) ∧ wp.grownBy wr (some B)) (fun va _ _ => N - (intOf va).toNat)
          case atStart => exact ⟨0, by simp, by first | rfl | simp | (simp; omega), by omega, HQ2, grown_b (Below.refl _ _) _⟩
          case round =>
            obtain ⟨a, rfl, rfl, haN, hP, hgr⟩ := hrel
            by_cases hl2 : a + 2 * bs ≤ N
            · have HC := Lib.hid (H2.out wr bs a hbs hP.out hl2 (HG2.out.trans hgr))
              go_wp2_with (go_at_call 158; refine HC.out.mono ?_; rintro e w1 ⟨rfl, hP1, hg1⟩; have HP2 := Lib.hid hP1; clear hP1)
              go_roundw
              case rel => exact ⟨a + 2 * bs, by go_num, by first | go_num | (congr 1; omega), hl2, HP2, hgr.trans hg1⟩
              case measure => simp [intOf]; omega
            · by_cases hl3 : a + bs < N
              · have HC := Lib.hid (H3.out wr bs a hbs hP.out hl3 (by omega) (HG2.out.trans hgr))
                have hl4 : (a : Int) + bs < N := by omega
                go_wp2_with (go_at_call 158; refine HC.out.mono ?_; rintro e w1 ⟨rfl, hP1, hg1⟩; have HP2 := Lib.hid hP1; clear hP1)
                go_roundw
                case rel => exact ⟨2 * bs, by first | go_num | (congr 1; omega), by omega, by omega, HP2, (HG2.out.trans hgr).trans hg1⟩
                case measure => simp [intOf]; omega
              · have HP2 := Lib.hid (H4.out wr bs a hP.out hl3)
                have hl4 : ¬ (a : Int) + bs < N := by omega
                go_wp2
                go_roundw
                case rel => exact ⟨2 * bs, by first | go_num | (congr 1; omega), by omega, by omega, HP2, HG2.out.trans hgr⟩
                case measure => simp [intOf]; omega
        · have HF := Lib.hid (H5.out wr bs hQ.out hlt)
          have hl4 : ¬ (bs : Int) < N := by omega
          clear hQ
          go_wp2
          go_end0
          exact ⟨rfl, HF.out, hgr⟩
end Go.Proofs.YtlhdndnohmikeaaGreatDoor
