/-
  Walks: the set of any pairs (Collect).
-/
import Derived.Test.YtlhdndnohmikeaaGreatDoorMW21
import Derived.Test.YtlhdndnohmikeaaGreatDoorW1
import Derived.WalkMore
set_option linter.unusedVariables false
set_option linter.unusedSimpArgs false
namespace Go.Proofs.YtlhdndnohmikeaaGreatDoor
open Go.RowKit

def seg (es : List Elt) (i j : Nat) : List Elt := (es.drop i).take (j - i)
theorem seg_snoc (es : List Elt) {i j : Nat} (hij : i ≤ j) (hj : j < es.length) : seg es i (j + 1) = seg es i j ++ [es[j]] := by
  unfold seg
  rw [show j + 1 - i = (j - i) + 1 by omega, List.take_succ_eq_append_getElem (by rw [List.length_drop]; omega), List.getElem_drop]
  congr 3; omega
theorem grp_step (outs : List Pair) (es : List Elt) (i j : Nat) (hi : i < j) (hj : j ≤ es.length) (e0 : Elt) (he : es[i]? = some e0) (hall : ∀ q ∈ seg es i j, q.row = e0.row) (hstop : ∀ q, es[j]? = some q → q.row ≠ e0.row) :
    groupRes outs ((es.drop i).map Elt.pair) = if fits (sumW ((seg es i j).map Elt.pair)) = false then ([], 12) else if sumW ((seg es i j).map Elt.pair) = 0 then groupRes outs ((es.drop j).map Elt.pair) else groupRes (outs ++ [⟨e0.row, sumW ((seg es i j).map Elt.pair)⟩]) ((es.drop j).map Elt.pair) := by
  obtain ⟨hl, rfl⟩ := List.getElem?_eq_some_iff.1 he
  have e1 : es.drop i = es[i] :: es.drop (i + 1) := List.drop_eq_getElem_cons hl
  have e2 : seg es i j = es[i] :: (es.drop (i + 1)).take (j - (i + 1)) := by
    unfold seg
    rw [e1, show j - i = (j - (i + 1)) + 1 by omega, List.take_succ_cons]
  have e3 : es.drop (i + 1) = (es.drop (i + 1)).take (j - (i + 1)) ++ es.drop j := by
    conv => lhs; rw [← List.take_append_drop (j - (i + 1)) (es.drop (i + 1))]
    rw [List.drop_drop, show i + 1 + (j - (i + 1)) = j by omega]
  rw [e1, e3, e2, List.map_cons, List.map_append, List.map_cons]
  refine groupRes_step outs es[i].pair _ _ (fun q hq => ?_) (fun q hq => ?_)
  · obtain ⟨x, hx, rfl⟩ := List.mem_map.1 hq
    exact hall x (by rw [e2]; exact List.mem_cons_of_mem _ hx)
  · rw [List.head?_map, List.head?_drop] at hq
    obtain ⟨x, hx, rfl⟩ := Option.map_eq_some_iff.1 hq
    exact hstop x hx
/-- Ahead of the append: what lies there. -/
theorem app_ready {wz wo X w6 w7 : World} {vo : Value} {outs : List Pair} {row : List Cell} {T : Int} {A7 : Option Addr} {c7 : Nat}
    (hO : Own pairK 94 X wz.heap.size (fun k => (wz.heap.size ≤ k ∧ vo.ownBlock ≠ some k) ∧ k < wo.heap.size) vo outs) (hvl : ∀ k, vo.ownBlock = some k → wz.heap.size ≤ k ∧ k < wo.heap.size) (h1 : wz.heap.size ≤ wo.heap.size) (h2 : wo.heap.size ≤ X.heap.size)
    (hb6 : Below X.heap.size X w6) (hb7 : Below w6.heap.size w6 w7) (h7 : Own cellK 90 w7 w6.heap.size (fun _ => False) (.slice A7 row.length c7) row) (hT : I64 T) :
    Own pairK 94 (w7.alloc (.cells #[.slice A7 row.length c7, .int .i64 T] 94)) wz.heap.size (fun k => (wz.heap.size ≤ k ∧ vo.ownBlock ≠ some k) ∧ k < w7.heap.size + 1) vo outs ∧
    SL pairK (w7.alloc (.cells #[.slice A7 row.length c7, .int .i64 T] 94)) (fun k => w6.heap.size ≤ k ∧ k < w7.heap.size + 1) (.slice (some ⟨w7.heap.size, 0, none⟩) 1 1) [⟨row, T⟩] ∧
    (∀ k, vo.ownBlock = some k → ¬ (w6.heap.size ≤ k ∧ k < w7.heap.size + 1)) ∧ (∀ k, (w6.heap.size ≤ k ∧ k < w7.heap.size + 1) → ((wz.heap.size ≤ k ∧ vo.ownBlock ≠ some k) ∧ k < w7.heap.size + 1)) ∧ wz.heap.size ≤ (w7.alloc (.cells #[.slice A7 row.length c7, .int .i64 T] 94)).heap.size := by
  have s6 := hb6.size
  have s7 := hb7.size
  refine ⟨?_, ?_, fun k hk h => by have := hvl k hk; omega, fun k h => ⟨⟨by omega, fun e => by have := hvl k e; omega⟩, h.2⟩, by simp; omega⟩
  · exact ((hO.below hb6).below (bel_alloc hb7 _)).wid fun k hk _ => ⟨hk.1, by omega⟩
  · have hr : pairK.rel w7 (fun k => w6.heap.size ≤ k) ⟨row, T⟩ [.slice A7 row.length c7, .int .i64 T] := ⟨_, rfl, h7.sl.wid fun k hk _ => hk.elim False.elim id, hT⟩
    exact (SL.single 94 hr).wid fun k hk hl => ⟨by rcases hk with h | h <;> omega, by simpa using hl⟩
theorem app_done {wz w7 w9 : World} {o : Obj} {vo v9 : Value} {xs : List Pair} (h : Appended pairK 94 wz.heap.size (fun k => (wz.heap.size ≤ k ∧ vo.ownBlock ≠ some k) ∧ k < w7.heap.size + 1) (w7.alloc o) vo xs v9 w9) (hvl : ∀ k, vo.ownBlock = some k → wz.heap.size ≤ k)
    (hb : Below wz.heap.size wz w7) : Own pairK 94 w9 wz.heap.size (fun k => wz.heap.size ≤ k ∧ v9.ownBlock ≠ some k) v9 xs ∧ Below wz.heap.size wz w9 := by
  obtain ⟨h1, h2, h3⟩ := h
  refine ⟨h1.wid fun k hk _ => ⟨hk.1.1, fun e => ?_⟩, (bel_alloc hb o).grown h2 (bel_alloc hb o).size fun k hk => hvl k hk⟩
  rcases h3 with h3 | h3
  · exact hk.1.2 (h3 ▸ e)
  · rw [h3] at e
    injection e with e
    simp at e
    omega
/-- What a call of Collect leaves. -/
def CollectPost (s : List Col) (l : List Pair) (w : World) (e : Ending) (w' : World) : Prop :=
  (∃ vo out ec, e = .returned (.tuple #[vo, .int .i64 ec]) ∧ SL pairK w' (fun k => w.heap.size ≤ k) vo out ∧ Collected s l out ec) ∧ Below w.heap.size w w'

set_option maxHeartbeats 4000000 in
set_option maxRecDepth 100000 in
theorem collect_calls (s : List Col) (l : List Pair) (vs vl : Value) (w : World) (F G : Nat → Prop) (hG : Glob w) (hs : SL colK w F vs s) (hl : SL pairK w G vl l) (hn : l.length ≤ 1099511627776) :
    Calls Tryz.prog 31 #[vs, vl] w (CollectPost s l w) := by
  obtain ⟨A, c, rfl, _, _⟩ := hs.form
  obtain ⟨B, c', rfl, _, _⟩ := hl.form
  obtain ⟨sc, hsc⟩ : ∃ sc, schemaCheck s = sc := ⟨_, rfl⟩
  have hb0 : Below w.heap.size w (w.alloc (.cells #[.slice A s.length c] 22)) := bel_alloc (Below.refl _ _) _
  have hSC : Calls Tryz.prog 69 #[.slice A s.length c] (w.alloc (.cells #[.slice A s.length c] 22)) fun e w' => e = .returned (.int .i64 sc) ∧ Below (w.alloc (.cells #[.slice A s.length c] 22)).heap.size (w.alloc (.cells #[.slice A s.length c] 22)) w' := hsc ▸ schemaCheck_calls s _ _ F (hG.below hb0) (hs.below hb0)
  have SC := Lib.hid hSC
  clear hSC
  by_cases h0 : sc = 0
  · have HF : Hid (schemaCheck s = 0) := by show _ = _; rw [hsc, h0]
    subst h0
    clear hsc
    go_enter Tryz.func31, Tryz.ntmps31
    go_wp2
    apply wp_scope_straight
    go_wp2_with (go_at_call 69; refine SC.out.mono ?_; rintro e w1 ⟨rfl, hb1⟩; have hC1 : w1.cell? ⟨w.heap.size, 0, none⟩ = some (.slice A s.length c) := ((bcell hb1).1 _ _ (by simp)).trans (by simp); have hbw1 := bel_trans hb0 hb1)
    go_loopw [24] (fun i wr => ∃ (k : Nat), k ≤ l.length ∧ i = .int .i64 k ∧ Below w.heap.size w wr ∧ wr.cell? ⟨w.heap.size, 0, none⟩ = some (.slice A s.length c) ∧ Hid (rowsLoop s l = rowsLoop s (l.drop k))) (fun i _ => l.length - (intOf i).toNat)
    case atStart => exact ⟨0, by omega, rfl, hbw1, hC1, rfl⟩
    case round =>
      obtain ⟨k, hk, rfl, hbw, hCr, hT⟩ := hrel
      by_cases hlt : k < l.length
      · obtain ⟨bd, r, rfl, l2, y0, y1, y2, y3⟩ := pair_at (hl.below hbw) hlt
        have k0 : (k : Int) < l.length := by omega
        have hstep : Hid (rowsLoop s l = if rowCheck s l[k].row ≠ 0 then rowCheck s l[k].row else rowsLoop s (l.drop (k + 1))) := by
          show _ = _
          rw [hT.out, List.drop_eq_getElem_cons hlt, rowsLoop]
        obtain ⟨D, cd, rfl, _, _⟩ := y2.form
        obtain ⟨wt, hwt⟩ : ∃ x, l[k].weight = x := ⟨_, rfl⟩
        obtain ⟨row, hrow⟩ : ∃ x, l[k].row = x := ⟨_, rfl⟩
        rw [hwt] at y1 y3
        rw [hrow] at hstep y0 y2
        obtain ⟨rc, hrc⟩ : ∃ x, rowCheck s row = x := ⟨_, rfl⟩
        rw [hrc] at hstep
        have hRC : ∀ W : World, Below wr.heap.size wr W → Calls Tryz.prog 70 #[.slice A s.length c, .slice D row.length cd] W fun e w' => e = .returned (.int .i64 rc) ∧ Below W.heap.size W w' := fun W h => hrc ▸ rowCheck_calls s row _ _ W _ _ ((hG.below hbw).below h) ((hs.below hbw).below h) (y2.below h)
        have RC := Lib.hid hRC
        have hCr2 := cell_al hCr (.cells #[.slice D row.length cd, .int .i64 wt] 94)
        clear hRC hrc hwt hrow hT
        by_cases hr0 : rc = 0
        · have er : (rc != 0) = false := bne_false hr0
          have hstep1 := hstep.out
          rw [if_neg (by simpa using hr0)] at hstep1
          have HS := Lib.hid hstep1
          clear hr0 hstep1 hstep
          go_wp2_with (first | (go_at_call 70; refine (RC.out _ (bel_alloc (Below.refl _ _) _)).mono ?_; rintro e w2 ⟨rfl, hb2⟩; have hb3 := bel_trans (bel_alloc (Below.refl wr.heap.size wr) _) hb2; have hC3 := ((bcell hb3).1 w.heap.size 0 (World.block_lt_of_cell? wr _ hCr)).trans hCr))
          go_roundw
          case rel => exact ⟨k + 1, by omega, by go_num, bel_trans hbw hb3, hC3, HS⟩
          case measure => simp [intOf]; omega
        · have er : (rc != 0) = true := bne_true hr0
          have hstep1 := hstep.out
          rw [if_pos (by simpa using hr0)] at hstep1
          have HS := Lib.hid hstep1
          have HR0 := Lib.hid hr0
          clear hr0 hstep1 hstep
          go_wp2_with (first | (go_at_call 70; refine (RC.out _ (bel_alloc (Below.refl _ _) _)).mono ?_; rintro e w2 ⟨rfl, hb2⟩; have hb3 := bel_trans (bel_alloc (Below.refl wr.heap.size wr) _) hb2))
          refine bodyPost_ret (results_tmp2 rfl _ _ _) rfl ⟨⟨.slice none 0 0, [], rc, by simp, SL.nil _ _ _, .inr (.inl ⟨HF.out, by rw [HS.out]; exact HR0.out, rfl, HS.out.symm⟩)⟩, bel_trans hbw hb3⟩
      · have hk' : k = l.length := by omega
        have HRW : Hid (rowsLoop s l = 0) := by
          show _ = _
          rw [hT.out, hk', List.drop_length, rowsLoop]
        rename World => wa
        have hCl := clonePair_calls l (.slice B l.length c') wa G (hl.below hbw) hn
        have CL := Lib.hid hCl
        have HLT := Lib.hid (World.block_lt_of_cell? wa _ hCr)
        clear hCl hk' hT
        go_wp2_with (first
          | (go_at_call 71; refine CL.out.mono ?_; rintro e w2 ⟨⟨v', rfl, hown⟩, hb2⟩; have hC2 := ((bcell hb2).1 w.heap.size 0 HLT.out).trans hCr; have hbw2 := bel_trans hbw hb2)
          | (go_at_call 72; refine (sortAny_calls hown HRW.out hG hbw2 hbw.size hC2 (hs.since hbw2) HLT.out (fun k h => h.2) (fun k h => Nat.lt_of_lt_of_le h.2 hbw.size) (by omega) hb2.size).mono ?_; rintro e w3 ⟨rfl, ⟨A', N, cap, es, rfl, hR⟩, hb3⟩))
        obtain ⟨hlen, hperm, hsorted, harr, hrows⟩ := hR
        have hbw3 : Below w.heap.size w w3 := hbw2.trans (hb3.mono hbw.size)
        have hNl : N ≤ 1099511627776 := by rw [hlen, ← List.length_map (f := Elt.pair), hperm.length_eq]; exact hn
        have HFIN := Lib.hid (show ∀ outs ec, groupRes [] (es.map Elt.pair) = (outs, ec) → Collected s l outs ec from fun outs ec h => .inr (.inr ⟨HF.out, HRW.out, _, hperm, by
          rw [List.pairwise_map]; exact hsorted, h⟩))
        have HRO := Lib.hid hrows
        have HAR := Lib.hid harr
        have HLEN := Lib.hid hlen
        have hw3s : w.heap.size ≤ w3.heap.size := hbw3.size
        have RLEN := Lib.hid (show ∀ e ∈ es, e.row.length ≤ 1099511627776 from fun e he => by
          have h1 := (hrows e he).2.2
          have h2 := (rowOK_check h1).length
          have h3 : s.length ≤ 8 := by
            have h4 := HF.out
            unfold schemaCheck at h4
            split at h4
            · omega
            · split at h4
              · omega
              · omega
          omega)
        clear hrows hlen hperm hsorted harr hown hC2 hb2 hb3 hbw2 hCr hbw CL HLT HRW hlt
        rename World => wz
        apply wp_label
        go_wp2
        go_loopw [12, 11] (fun vi vo wr => ∃ (i : Nat) (outs : List Pair), vi = .int .i64 i ∧ i ≤ N ∧ outs.length ≤ i ∧ Own pairK 94 wr wz.heap.size (fun k => wz.heap.size ≤ k ∧ vo.ownBlock ≠ some k) vo outs ∧ Hid (groupRes [] (es.map Elt.pair) = groupRes outs ((es.drop i).map Elt.pair)) ∧ Below wz.heap.size wz wr) (fun vi _ _ => N - (intOf vi).toNat)
        case atStart => exact ⟨0, [], rfl, by omega, by simp, Own.nil _ _ _ _ _, rfl, Below.refl _ _⟩
        case round =>
          obtain ⟨i, outs, rfl, hiN, hol, hOwn, hGR, hbz⟩ := hrel
          by_cases hlt : i < N
          · obtain ⟨g, rfl, hg1, hg2, hArr⟩ := HAR.out (by omega)
            have hiE : i < es.length := by have := HLEN.out; omega
            obtain ⟨e0, he0⟩ : ∃ e0, es[i]? = some e0 := ⟨_, List.getElem?_eq_getElem hiE⟩
            have hmem : e0 ∈ es := List.mem_of_getElem? he0
            rename World => wo
            have hArro : Arr wo g es := hArr.keep (hbz.block g hg2)
            obtain ⟨x0, x1, A1, n1, c1, hv1⟩ := hArro.at_ he0
            have hE0 := (HRO.out e0 hmem)
            have hSL0 : SL cellK wz (fun _ => True) e0.val e0.row := hE0.1.any
            rw [hv1] at hSL0 x0
            have x2 := cell_al x0 (.cells #[.int .u64 0, .int .u64 0, .int .i64 0] 138)
            have hTot : Hid (Tot (wo.alloc (.cells #[.int .u64 0, .int .u64 0, .int .i64 0] 138)) wo.heap.size (sumW ((seg es i i).map Elt.pair))) := by
              show Tot _ _ _
              rw [show seg es i i = [] by unfold seg; simp]
              exact ⟨0, 0, 0, Wd.zero, by simp, by simp, by simp, by simp, by simp, by simp⟩
            have hall0 : Hid (∀ q ∈ seg es i i, q.row = e0.row) := by
              show ∀ q ∈ seg es i i, _
              rw [show seg es i i = [] by unfold seg; simp]; simp
            have hzo : wz.heap.size ≤ wo.heap.size := hbz.size
            have hgN : g < wz.heap.size := hg2
            have HE := Lib.hid (And.intro he0 hmem)
            have i0 : (i : Int) < N := by omega
            have hbo : Below wo.heap.size wo (wo.alloc (.cells #[.int .u64 0, .int .u64 0, .int .i64 0] 138)) := bel_alloc (Below.refl _ _) _
            have hbs : wo.heap.size < (wo.alloc (.cells #[.int .u64 0, .int .u64 0, .int .i64 0] 138)).heap.size := by simp
            clear he0 hE0 x1 hArro
            go_wp2
            generalize (wo.alloc (.cells #[.int .u64 0, .int .u64 0, .int .i64 0] 138)) = wb at hTot hbo hbs x2 ⊢
            go_loopw [12] (fun vj wr => ∃ j : Nat, vj = .int .i64 j ∧ i ≤ j ∧ j ≤ N ∧ Hid (∀ q ∈ seg es i j, q.row = e0.row) ∧ Hid (Tot wr wo.heap.size (sumW ((seg es i j).map Elt.pair))) ∧ wb.grownBy wr (some wo.heap.size)) (fun vj _ => N - (intOf vj).toNat)
            case atStart => exact ⟨i, rfl, Nat.le_refl _, hiN, hall0, hTot, grown_b (Below.refl _ _) _⟩
            case round =>
              obtain ⟨j, rfl, hij, hjN, hAll, hTj, hgj⟩ := hrel
              have hKz : Below wz.heap.size wz wr := hbz.trans ((hbo.mono hzo).trans ⟨hgj.os, hgj.tape, hgj.output, hgj.size, fun k hk => hgj.block k (by omega) (fun e => by injection e; omega)⟩)
              have hSLr := hSL0.below hKz
              by_cases hjl : j < N
              · have hjE : j < es.length := by have := HLEN.out; omega
                obtain ⟨ej, hej⟩ : ∃ ej, es[j]? = some ej := ⟨_, List.getElem?_eq_getElem hjE⟩
                have hmj : ej ∈ es := List.mem_of_getElem? hej
                obtain ⟨z0, z1, A2, n2, c2, hv2⟩ := (hArr.keep (hKz.block g hg2)).at_ hej
                have hEj := HRO.out ej hmj
                have hSLj := (hEj.1.any.below hKz)
                rw [hv2] at hSLj z0
                have j0 : (j : Int) < N := by omega
                obtain ⟨bq, hbq⟩ : ∃ bq, decide (e0.row = ej.row) = bq := ⟨_, rfl⟩
                have hRS := rowSame_calls e0.row ej.row _ _ wr _ _ hSLr hSLj
                rw [hbq] at hRS
                have RS := Lib.hid hRS
                have HEJ := Lib.hid (And.intro hej (And.intro hEj.2.1 hbq))
                obtain ⟨wj, hwj⟩ : ∃ wj, ej.weight = wj := ⟨_, rfl⟩
                rw [hwj] at z1
                have HWJ := Lib.hid hwj
                have HLTj := Lib.hid (show g < wr.heap.size from World.block_lt_of_cell? wr _ z0)
                clear hRS hbq hej hEj hwj
                cases bq
                · have hstop : ∀ q, es[j]? = some q → q.row ≠ e0.row := fun q hq e => by
                    rw [HEJ.out.1] at hq
                    injection hq with hq
                    have := of_decide_eq_false HEJ.out.2.2
                    rw [hq] at this
                    exact this e.symm
                  have HST := Lib.hid hstop
                  clear hstop
                  go_wp2_with ((go_at_call 75; refine RS.out.mono ?_; rintro e w4 ⟨rfl, hb4⟩; have hT4 := Lib.hid (hTj.out.keep (hb4.block wo.heap.size hTj.out.lt)); have hg4 := hgj.trans (grown_b hb4 _)))
                  have hijl : i < j := by
                    refine Nat.lt_of_le_of_ne hij fun e => ?_
                    exact HST.out e0 (e ▸ HE.out.1) rfl
                  have HSTOP : Hid (∀ q, es[j]? = some q → q.row ≠ e0.row) := HST
                  obtain ⟨T, hTe⟩ : ∃ T, sumW ((seg es i j).map Elt.pair) = T := ⟨_, rfl⟩
                  have hjE2 : j ≤ es.length := by have := HLEN.out; omega
                  have hGS := grp_step outs es i j hijl hjE2 e0 HE.out.1 hAll.out HSTOP.out
                  rw [hTe] at hGS
                  have HGS := Lib.hid (hGR.out.trans hGS)
                  have hTot2 : Tot w4 wo.heap.size T := hTe ▸ hT4.out
                  have hTb : -170141183460469231731687303715884105728 ≤ T ∧ T < 170141183460469231731687303715884105728 := by
                    have h1 := sumW_bound ((seg es i j).map Elt.pair) (fun q hq => by
                      obtain ⟨x, hx, rfl⟩ := List.mem_map.1 hq
                      exact (HRO.out x (List.mem_of_mem_drop (List.mem_of_mem_take hx))).2.1)
                    have h2 : (seg es i j).length ≤ N := by unfold seg; rw [List.length_take, List.length_drop]; have := HLEN.out; omega
                    rw [List.length_map, hTe] at h1
                    omega
                  have hSum := totalSum_calls wo.heap.size T w4 hTot2 hTb
                  have hgX : wo.grownBy w4 (some wo.heap.size) := (grown_b hbo _).trans hg4
                  have hOwn1 : Own pairK 94 w4 wz.heap.size (fun k => (wz.heap.size ≤ k ∧ u11.ownBlock ≠ some k) ∧ k < wo.heap.size) u11 outs := (hOwn.wid fun k hk hl => ⟨hk, hl⟩).keep hgX fun k hk => by
                    injection hk with hk
                    subst hk
                    exact ⟨fun e => by have := (hOwn.lt _ e).2; omega, fun h => by omega⟩
                  have hKX : Below wz.heap.size wz w4 := hbz.trans ⟨hgX.os, hgX.tape, hgX.output, hgX.size, fun k hk => hgX.block k (by omega) (fun e => by injection e; omega)⟩
                  have HOW := Lib.hid hOwn1
                  have HXS := Lib.hid (show wo.heap.size ≤ w4.heap.size from hgX.size)
                  have HVL := Lib.hid (fun k => hOwn.lt k)
                  clear hGS hTe hTot2 hTb hgX hOwn1 hOwn hGR hg4
                  cases hfT : fits T
                  · rw [hfT] at hSum
                    rw [hfT] at HGS
                    have SM := Lib.hid hSum
                    clear hSum hfT
                    go_wp2_with (first 
                      | (go_at_call 77; refine SM.out.mono ?_; rintro e w6 ⟨rfl, hb6⟩))
                    refine bodyPost_ret (results_tmp2 rfl _ _ _) rfl ⟨⟨.slice none 0 0, [], 12, by simp, SL.nil _ _ _, HFIN.out _ _ (by rw [HGS.out]; simp)⟩, (hbw3.trans (hKX.mono hw3s)).trans (hb6.mono (Nat.le_trans hw3s hKX.size))⟩
                  · rw [hfT] at hSum
                    rw [hfT] at HGS
                    by_cases hT0 : T = 0
                    · have eT : (T == 0) = true := beq_true_ hT0
                      have HG3 := Lib.hid (show groupRes [] (es.map Elt.pair) = groupRes outs ((es.drop j).map Elt.pair) by rw [HGS.out, hT0]; simp)
                      have SM := Lib.hid hSum
                      clear hSum hfT hT0
                      go_wp2_with (first 
                        | (go_at_call 77; refine SM.out.mono ?_; rintro e w6 ⟨rfl, hb6⟩))
                      go_roundw
                      case rel => exact ⟨j, outs, rfl, hjN, by omega, (HOW.out.below hb6).wid fun k hk _ => hk.1, HG3, hKX.trans (hb6.mono hKX.size)⟩
                      case measure => simp [intOf]; omega
                    · have eT : (T == 0) = false := beq_false_ hT0
                      have HG3 := Lib.hid (show groupRes [] (es.map Elt.pair) = groupRes (outs ++ [⟨e0.row, T⟩]) ((es.drop j).map Elt.pair) by rw [HGS.out]; simp [hT0])
                      have SM := Lib.hid hSum
                      have HTI := Lib.hid (show I64 T from by have h := hfT; unfold fits at h; exact of_decide_eq_true (p := -9223372036854775808 ≤ T ∧ T ≤ 9223372036854775807) h)
                      clear hSum hfT hT0
                      have hCLo := fun (W : World) (h : Below wz.heap.size wz W) => cloneCell_calls e0.row (.slice A1 n1 c1) W _ (hSL0.below h) (RLEN.out e0 HE.out.2)
                      have CLO := Lib.hid hCLo
                      clear hCLo
                      go_wp2_with (first 
                        | (go_at_call 77; refine SM.out.mono ?_; rintro e w6 ⟨rfl, hb6⟩; have hK6 := Lib.hid (hKX.trans (hb6.mono hKX.size)))
                        | (go_at_call 78; refine (CLO.out w6 hK6.out).mono ?_; rintro e w7 ⟨⟨v7, rfl, hown7⟩, hb7⟩; obtain ⟨A7, c7, rfl, _, _⟩ := hown7.sl.form; obtain ⟨hO8, hS8, hD8, hE8, hz8⟩ := app_ready HOW.out HVL.out hzo HXS.out hb6 hb7 hown7 HTI.out)
                        | (at_builtin; refine wpList_append_sl pairK elemPair rfl _ _ 33 rfl Tryz.underlying33 rfl hO8 rfl hS8 (deepF (fun k hk h => h.1.2 hk) (fun _ h => h)) (deepF hD8 hE8) (by simp only [maxLen, List.length_singleton]; omega) (by simp only [List.length_singleton]; omega) hz8 ?_; rintro v9 w9 hAp; have HD := Lib.hid (app_done hAp (fun k hk => (HVL.out k hk).1) (hK6.out.trans (hb7.mono hK6.out.size))); clear hAp))
                      go_roundw
                      case rel => exact ⟨j, _, rfl, hjN, by rw [List.length_append, List.length_singleton]; omega, HD.out.1, HG3, HD.out.2⟩
                      case measure => simp [intOf]; omega
                · have HTA := fun (W : World) (h : Tot W wo.heap.size (sumW ((seg es i j).map Elt.pair))) => totalAdd_calls wo.heap.size _ wj W h (by rw [← HWJ.out]; exact HEJ.out.2.1)
                  have TA := Lib.hid HTA
                  clear HTA
                  go_wp2_with (first
                    | (go_at_call 75; refine RS.out.mono ?_; rintro e w4 ⟨rfl, hb4⟩; have z2 := ((bcell hb4).1 g (j * 2 + 1) HLTj.out).trans z1; have hT4 := Lib.hid (hTj.out.keep (hb4.block wo.heap.size hTj.out.lt)))
                    | (go_at_call 76; refine (TA.out w4 hT4.out).mono ?_; rintro e w5 ⟨rfl, hT5, hg5⟩; have HT5 := Lib.hid hT5; clear hT5))
                  go_roundw
                  case rel =>
                    have hjE' : j < es.length := hjE
                    have hsn := seg_snoc es hij hjE'
                    have he1 : es[j] = ej := by have := HEJ.out.1; rw [List.getElem?_eq_getElem hjE'] at this; injection this
                    refine ⟨j + 1, by go_num, by omega, by omega, ?_, ?_, (hgj.trans (grown_b hb4 _)).trans hg5⟩
                    · show ∀ q ∈ seg es i (j + 1), _
                      intro q hq
                      rw [hsn, he1] at hq
                      rcases List.mem_append.1 hq with hq | hq
                      · exact hAll.out q hq
                      · simp at hq
                        rw [hq]
                        exact (of_decide_eq_true HEJ.out.2.2).symm
                    · show Tot _ _ _
                      have h5 := HT5.out
                      rw [hsn, he1, List.map_append, sumW_append]
                      simp only [List.map_cons, List.map_nil, sumW, Elt.pair]
                      rw [HWJ.out]
                      simpa using h5
                  case measure => simp [intOf]; omega
              · have HST : Hid (∀ q, es[j]? = some q → q.row ≠ e0.row) := fun q hq => by
                  have := (List.getElem?_eq_some_iff.1 hq).1
                  have := HLEN.out
                  omega
                have hijl : i < j := by
                  refine Nat.lt_of_le_of_ne hij fun e => ?_
                  omega
                have HSTOP : Hid (∀ q, es[j]? = some q → q.row ≠ e0.row) := HST
                obtain ⟨T, hTe⟩ : ∃ T, sumW ((seg es i j).map Elt.pair) = T := ⟨_, rfl⟩
                have hjE2 : j ≤ es.length := by have := HLEN.out; omega
                have hGS := grp_step outs es i j hijl hjE2 e0 HE.out.1 hAll.out HSTOP.out
                rw [hTe] at hGS
                have HGS := Lib.hid (hGR.out.trans hGS)
                have hTot2 : Tot wr wo.heap.size T := hTe ▸ hTj.out
                have hTb : -170141183460469231731687303715884105728 ≤ T ∧ T < 170141183460469231731687303715884105728 := by
                  have h1 := sumW_bound ((seg es i j).map Elt.pair) (fun q hq => by
                    obtain ⟨x, hx, rfl⟩ := List.mem_map.1 hq
                    exact (HRO.out x (List.mem_of_mem_drop (List.mem_of_mem_take hx))).2.1)
                  have h2 : (seg es i j).length ≤ N := by unfold seg; rw [List.length_take, List.length_drop]; have := HLEN.out; omega
                  rw [List.length_map, hTe] at h1
                  omega
                have hSum := totalSum_calls wo.heap.size T wr hTot2 hTb
                have hgX : wo.grownBy wr (some wo.heap.size) := (grown_b hbo _).trans hgj
                have hOwn1 : Own pairK 94 wr wz.heap.size (fun k => (wz.heap.size ≤ k ∧ u11.ownBlock ≠ some k) ∧ k < wo.heap.size) u11 outs := (hOwn.wid fun k hk hl => ⟨hk, hl⟩).keep hgX fun k hk => by
                  injection hk with hk
                  subst hk
                  exact ⟨fun e => by have := (hOwn.lt _ e).2; omega, fun h => by omega⟩
                have hKX : Below wz.heap.size wz wr := hbz.trans ⟨hgX.os, hgX.tape, hgX.output, hgX.size, fun k hk => hgX.block k (by omega) (fun e => by injection e; omega)⟩
                have HOW := Lib.hid hOwn1
                have HXS := Lib.hid (show wo.heap.size ≤ wr.heap.size from hgX.size)
                have HVL := Lib.hid (fun k => hOwn.lt k)
                clear hGS hTe hTot2 hTb hgX hOwn1 hOwn hGR 
                cases hfT : fits T
                · rw [hfT] at hSum
                  rw [hfT] at HGS
                  have SM := Lib.hid hSum
                  clear hSum hfT
                  go_wp2_with (first 
                    | (go_at_call 77; refine SM.out.mono ?_; rintro e w6 ⟨rfl, hb6⟩))
                  refine bodyPost_ret (results_tmp2 rfl _ _ _) rfl ⟨⟨.slice none 0 0, [], 12, by simp, SL.nil _ _ _, HFIN.out _ _ (by rw [HGS.out]; simp)⟩, (hbw3.trans (hKX.mono hw3s)).trans (hb6.mono (Nat.le_trans hw3s hKX.size))⟩
                · rw [hfT] at hSum
                  rw [hfT] at HGS
                  by_cases hT0 : T = 0
                  · have eT : (T == 0) = true := beq_true_ hT0
                    have HG3 := Lib.hid (show groupRes [] (es.map Elt.pair) = groupRes outs ((es.drop j).map Elt.pair) by rw [HGS.out, hT0]; simp)
                    have SM := Lib.hid hSum
                    clear hSum hfT hT0
                    go_wp2_with (first 
                      | (go_at_call 77; refine SM.out.mono ?_; rintro e w6 ⟨rfl, hb6⟩))
                    go_roundw
                    case rel => exact ⟨j, outs, rfl, hjN, by omega, (HOW.out.below hb6).wid fun k hk _ => hk.1, HG3, hKX.trans (hb6.mono hKX.size)⟩
                    case measure => simp [intOf]; omega
                  · have eT : (T == 0) = false := beq_false_ hT0
                    have HG3 := Lib.hid (show groupRes [] (es.map Elt.pair) = groupRes (outs ++ [⟨e0.row, T⟩]) ((es.drop j).map Elt.pair) by rw [HGS.out]; simp [hT0])
                    have SM := Lib.hid hSum
                    have HTI := Lib.hid (show I64 T from by have h := hfT; unfold fits at h; exact of_decide_eq_true (p := -9223372036854775808 ≤ T ∧ T ≤ 9223372036854775807) h)
                    clear hSum hfT hT0
                    have hCLo := fun (W : World) (h : Below wz.heap.size wz W) => cloneCell_calls e0.row (.slice A1 n1 c1) W _ (hSL0.below h) (RLEN.out e0 HE.out.2)
                    have CLO := Lib.hid hCLo
                    clear hCLo
                    go_wp2_with (first 
                      | (go_at_call 77; refine SM.out.mono ?_; rintro e w6 ⟨rfl, hb6⟩; have hK6 := Lib.hid (hKX.trans (hb6.mono hKX.size)))
                      | (go_at_call 78; refine (CLO.out w6 hK6.out).mono ?_; rintro e w7 ⟨⟨v7, rfl, hown7⟩, hb7⟩; obtain ⟨A7, c7, rfl, _, _⟩ := hown7.sl.form; obtain ⟨hO8, hS8, hD8, hE8, hz8⟩ := app_ready HOW.out HVL.out hzo HXS.out hb6 hb7 hown7 HTI.out)
                      | (at_builtin; refine wpList_append_sl pairK elemPair rfl _ _ 33 rfl Tryz.underlying33 rfl hO8 rfl hS8 (deepF (fun k hk h => h.1.2 hk) (fun _ h => h)) (deepF hD8 hE8) (by simp only [maxLen, List.length_singleton]; omega) (by simp only [List.length_singleton]; omega) hz8 ?_; rintro v9 w9 hAp; have HD := Lib.hid (app_done hAp (fun k hk => (HVL.out k hk).1) (hK6.out.trans (hb7.mono hK6.out.size))); clear hAp))
                    go_roundw
                    case rel => exact ⟨j, _, rfl, hjN, by rw [List.length_append, List.length_singleton]; omega, HD.out.1, HG3, HD.out.2⟩
                    case measure => simp [intOf]; omega
          · have hiN' : i = N := by omega
            have hEND : groupRes [] (es.map Elt.pair) = groupRes outs [] := by
              rw [hGR.out, List.drop_of_length_le (by have := HLEN.out; omega)]; rfl
            obtain ⟨Ao, co, rfl, _, _⟩ := hOwn.sl.form
            have HSL := Lib.hid (hOwn.sl.wid (F' := fun k => w.heap.size ≤ k) (fun k hk _ => by rcases hk with h | h <;> omega))
            by_cases hbig : 1024 < outs.length
            · have g1 : decide ((1024 : Int) < (outs.length : Int)) = true := decide_eq_true (by omega)
              have HC := Lib.hid (HFIN.out [] 13 (by rw [hEND, groupRes]; simp [hbig]))
              clear hEND hiN' hbig hGR hOwn
              go_wp2
              refine bodyPost_ret (results_tmp2 rfl _ _ _) rfl ⟨⟨.slice none 0 0, [], 13, by simp, SL.nil _ _ _, HC.out⟩, hbw3.trans (hbz.mono hw3s)⟩
            · have g1 : decide ((1024 : Int) < (outs.length : Int)) = false := decide_eq_false (by omega)
              have HC := Lib.hid (HFIN.out outs 0 (by rw [hEND, groupRes]; simp [hbig]))
              clear hEND hiN' hbig hGR hOwn
              go_wp2
              refine bodyPost_ret (results_tmp2 rfl _ _ _) rfl ⟨⟨.slice Ao outs.length co, outs, 0, by simp, HSL.out, HC.out⟩, hbw3.trans (hbz.mono hw3s)⟩
  · have HF : Hid (schemaCheck s = sc) := hsc
    have HF0 : Hid (schemaCheck s ≠ 0) := by show _ ≠ _; rw [hsc]; exact h0
    have hn2 : (sc != 0) = true := bne_true h0
    clear h0 hsc
    go_enter Tryz.func31, Tryz.ntmps31
    go_wp2
    apply wp_scope_straight
    go_wp2_with (go_at_call 69; refine SC.out.mono ?_; rintro e w1 ⟨rfl, hb1⟩)
    refine bodyPost_ret (results_tmp2 rfl _ _ _) rfl ⟨⟨.slice none 0 0, [], sc, by simp, SL.nil _ _ _, .inl ⟨HF0.out, rfl, HF.out.symm⟩⟩, bel_trans hb0 hb1⟩
end Go.Proofs.YtlhdndnohmikeaaGreatDoor
