/-
  Walks: law 13, TraceViews.
-/
import Derived.Test.YtlhdndnohmikeaaGreatDoorW55
import Derived.Test.YtlhdndnohmikeaaGreatDoorP4
set_option linter.unusedVariables false
set_option linter.unusedSimpArgs false
namespace Go.Proofs.YtlhdndnohmikeaaGreatDoor
open Go.RowKit

theorem entry_new {w : World} {F : Nat → Prop} {v : Value} {e : Entry} (hv : SL pairK w F v e.pairs) (hk : I64 e.kind) (hs : I64 e.seq) : SL entryK (w.alloc (.cells #[.int .i64 e.kind, .int .i64 e.seq, v] 58)) (fun k => F k ∨ k = w.heap.size) (.slice (some ⟨w.heap.size, 0, none⟩) 1 1) [e] :=
  SL.single 58 (d := entryK) (cs := [.int .i64 e.kind, .int .i64 e.seq, v]) ⟨v, rfl, hv, hk, hs⟩
set_option maxRecDepth 100000 in
set_option maxHeartbeats 4000000 in
theorem views_calls (s : List Col) (es : List Entry) (vs ve : Value) (w : World) (F G : Nat → Prop) (hG : Glob w) (hs : SL colK w F vs s) (he : SL entryK w G ve es) (hn : pairsSize (pairsOf2 es) ≤ 1099511627776) (hne : es.length ≤ 1099511627776) :
    Calls Tryz.prog 6 #[.agg #[vs, ve]] w fun e w' => e = .returned (.bool true) ∧ Below w.heap.size w w' := by
  obtain ⟨A, c, rfl, hc1, hc2⟩ := hs.form
  obtain ⟨B, d, rfl, hd1, hd2⟩ := he.form
  have hb0 : Below w.heap.size w (w.alloc (.cells #[.slice A s.length c, .slice B es.length d] 46)) := bel_alloc (Below.refl _ _) _
  have c0 := cell_new_at w #[.slice A s.length c, .slice B es.length d] 46 0 _ (.slice A s.length c) rfl rfl
  have c1 := cell_new_at w #[.slice A s.length c, .slice B es.length d] 46 1 _ (.slice B es.length d) rfl rfl
  have hG' := hG.below hb0
  have hs' := hs.below hb0
  have he' := he.below hb0
  have hgE := sl_goodE he
  clear hG hs he
  generalize hwa : w.alloc (.cells #[.slice A s.length c, .slice B es.length d] 46) = wa at *
  have AL := Lib.hid (fun W (hb : Below wa.heap.size wa W) => alive13_calls W (hG'.below hb))
  have GR := Lib.hid (fun W (hb : Below wa.heap.size wa W) => great13b_calls s es _ _ W _ _ (hs'.below hb) (he'.below hb) hn)
  have VW := Lib.hid (fun W (hb : Below wa.heap.size wa W) => view_calls s es _ _ W _ _ (hG'.below hb) (hs'.below hb) (he'.below hb) hne)
  have hw : wa.heap.size = w.heap.size + 1 := by rw [← hwa]; simp
  have HB0 := Lib.hid (fun (W : World) (h : Below wa.heap.size wa W) => bel_trans hb0 h)
  clear hb0
  have HWA := Lib.hid hwa
  clear hwa
  go_enter Tryz.func6, Tryz.ntmps6
  go_wp2_with fail
  rw [HWA.out]
  clear HWA
  go_wp2_with (first
    | (go_at_call 27; go_loud (refine (GR.out _ (by assumption)).mono ?_; rintro e w2 ⟨⟨n2, rfl, hg2⟩, hb2⟩; have HG2 := Lib.hid hg2; clear hg2; have hbw2 := bel_trans hb1 hb2; have m0 := cell_by hb2 k0; have m1 := cell_by hb2 k1))
    | (go_at_call 26; (refine (AL.out _ (Below.refl _ _)).mono ?_; rintro e w1 ⟨rfl, hb1⟩; have k0 := cell_lo hb1 (by show w.heap.size < _; omega) c0; have k1 := cell_lo hb1 (by show w.heap.size < _; omega) c1))
    | (go_at_call 26; go_loud (refine (AL.out _ hbw2).mono ?_; rintro e w9 ⟨rfl, hb9⟩))
    | (go_at_call 30; go_loud (refine (VW.out _ hbw2).mono ?_; rintro e w3 ⟨⟨vo, seq, view, ec3, rfl, hsv, hvw⟩, hb3⟩; have bw3 := bel_trans hbw2 hb3; have r0 := cell_by hb3 m0; have r1 := cell_by hb3 m1; rcases Decidable.em (ec3 = 0) with rfl | hec; rotate_left 1; obtain ⟨rfl, rfl⟩ := viewed_bad hgE hvw hec; have g3 := bne_true hec; clear hec hvw; obtain ⟨A3, c3, rfl, _, _⟩ := hsv.form; rotate_left 1; have HV3 := Lib.hid (viewed_ok hgE hvw); clear hvw; obtain ⟨A3, c3, rfl, _, _⟩ := hsv.form)))
  all_goals first | (go_ret; exact ⟨rfl, HB0.out _ (bel_trans hbw2 hb9)⟩) | (go_ret; exact ⟨rfl, HB0.out _ bw3⟩) | skip
  obtain ⟨hg1, hch⟩ := HV3.out
  obtain ⟨hl30, hsz⟩ := HG2.out (by omega)
  have HSQ := Lib.hid (chain_total hch hgE).n
  have HC := Lib.hid (And.intro hg1 (And.intro hch (And.intro hl30 hsz)))
  have CO := Lib.hid (fun W (hb : Below wa.heap.size wa W) vl F (h : SL pairK W F vl (batchPairs es)) => collect_calls s (batchPairs es) _ vl W _ F (hG'.below hb) (hs'.below hb) h (by have := pairs_le_size (batchPairs es); have := batchPairs_size es; omega))
  have ZS := Lib.hid (fun a va vb W F G (ha : SL pairK W F va a) (hb : SL pairK W G vb a) => (show Calls Tryz.prog 32 #[va, vb] W fun e w' => e = .returned (.bool true) ∧ Below W.heap.size W w' by have := zsetSame_calls a a va vb W F G ha hb; rw [decide_eq_true rfl] at this; exact this))
  have V2 := Lib.hid (fun W (hb : Below wa.heap.size wa W) v F us (h : SL entryK W F v us) (hl : us.length ≤ 1099511627776) => view_calls s us (.slice A s.length c) v W _ F (hG'.below hb) (hs'.below hb) h hl)
  have HSV := Lib.hid hsv
  clear hsv hg1 hch hsz HV3 HG2 VW GR AL hb1 hb2 hb3 k0 k1 m0 m1 c0 c1 hbw2
  have hw3 : w.heap.size < w3.heap.size := World.block_lt_of_cell? w3 _ r0
  go_loopw [6, 7, 42] (fun x y i wr => ∃ k : Nat, i = .int .i64 k ∧ k ≤ es.length ∧ Below w3.heap.size w3 wr ∧ y = .int .i64 (batches (es.take k) : Nat) ∧ Own pairK 94 wr w3.heap.size (fun k => k < w3.heap.size) x (batchPairs (es.take k))) (fun _ _ i _ => es.length - (intOf i).toNat)
  case atStart => exact ⟨0, rfl, by omega, Below.refl _ _, by simp [batches], by simpa [batchPairs] using Own.nil _ _ _ _ _⟩
  case round =>
    obtain ⟨k, rfl, hk, hbr, rfl, hO⟩ := hrel
    by_cases hlt : k < es.length
    · have hbwk := bel_trans bw3 hbr
      obtain ⟨ad, r, rfl, l1, x0, x1, x2, hr, _, _⟩ := entry_at (he'.since hbwk) hlt
      have k0 : (k : Int) < es.length := by omega
      have hta : batchPairs (es.take (k + 1)) = batchPairs (es.take k) ++ (if es[k].kind = 0 then es[k].pairs else []) := by
        rw [List.take_add_one, List.getElem?_eq_getElem hlt, Option.toList_some, batchPairs_snoc]
      have htb : batches (es.take (k + 1)) = batches (es.take k) + if es[k].kind = 0 then 1 else 0 := by
        rw [List.take_add_one, List.getElem?_eq_getElem hlt, Option.toList_some, batches_snoc]
      have hble := batches_le (es.take k)
      have hbl2 : (es.take k).length ≤ 30 := by rw [List.length_take]; omega
      have hlen : (batchPairs (es.take k)).length + es[k].pairs.length ≤ 1099511627776 := by
        have h1 := pairs_le_size (batchPairs (es.take k))
        have h2 := batchPairs_size (es.take k)
        have h3 := pairs_le_size es[k].pairs
        have h4 := pairsOf2_le es (k + 1)
        rw [pairsOf2_get es k hlt, pairsSize_append] at h4
        omega
      have HTA := Lib.hid (And.intro hta htb)
      clear hta htb
      generalize es[k] = ek at *
      generalize batchPairs (es.take k) = ps at *
      generalize batches (es.take k) = nb at *
      obtain ⟨C, cc, rfl, _, _⟩ := hr.form
      have hbA := bel_alloc hbr (.cells #[.int .i64 ek.kind, .int .i64 ek.seq, .slice C ek.pairs.length cc] 58)
      have hrA := hr.al (.cells #[.int .i64 ek.kind, .int .i64 ek.seq, .slice C ek.pairs.length cc] 58)
      have hOA := hO.below (bel_alloc (Below.refl _ _) (.cells #[.int .i64 ek.kind, .int .i64 ek.seq, .slice C ek.pairs.length cc] 58))
      have hltO := hO.lt
      have hz := hbwk.size
      have hz2 := bw3.size
      have hz3 := hbA.size
      by_cases hk0 : ek.kind = 0
      · have g0 : (ek.kind == 0) = true := beq_true_ hk0
        rw [if_pos hk0, if_pos hk0] at HTA
        clear hk0
        go_wp2_with (at_builtin; go_loud (refine wpList_append_sl pairK elemPair rfl _ _ 33 rfl Tryz.underlying33 rfl hOA rfl hrA (deepF (fun k hk h => by have := hltO k hk; omega) (fun _ h => h)) (deepF (fun k hk h => by have := hltO k hk; omega) (fun k h => by omega)) (by unfold maxLen; omega) (by omega) hz3 ?_; rintro v' w' ⟨hO2, hg2, hat2⟩))
        go_roundw
        case rel => exact ⟨k + 1, by go_num, by omega, bel_grown hbA hg2 (fun k hk => (hltO k hk).1), by rw [HTA.out.2]; go_num, by rw [HTA.out.1]; exact hO2⟩
        case measure => simp [intOf]; omega
      · have g0 : (ek.kind == 0) = false := beq_false_ hk0
        rw [if_neg hk0, if_neg hk0, List.append_nil] at HTA
        clear hk0
        go_wp2_with fail
        go_roundw
        case rel => exact ⟨k + 1, by go_num, by omega, hbA, by rw [HTA.out.2]; simp, by rw [HTA.out.1]; exact hOA⟩
        case measure => simp [intOf]; omega
    · have hk' : k = es.length := by omega
      rw [hk', List.take_length] at hO ⊢
      clear hk'
      have bwr := bel_trans bw3 hbr
      have q0 := cell_by hbr r0
      have q1 := cell_by hbr r1
      obtain ⟨C, cc, rfl, _, _⟩ := hO.sl.form
      have COr := Lib.hid (CO.out wr bwr _ _ hO.sl)
      clear hO
      have hbne : (seq != (batches es : Int)) = false := by rw [HSQ.out]; simp
      have hble := batches_le es
      have hI : I64 seq := by have := HSQ.out; unfold I64; omega
      have HI := Lib.hid hI
      clear hI
      go_wp2_with (first
        | (go_at_call 31; go_loud (refine COr.out.mono ?_; rintro e w4 ⟨⟨v4, out, ec, rfl, hs4, hco⟩, hb4⟩; obtain ⟨rfl, rfl⟩ := collect_view HC.out.1.1 HC.out.2.1 hgE hco; obtain ⟨A4, c4, rfl, _, _⟩ := hs4.form; have hsv4 := (HSV.out.below (bel_trans hbr hb4))))
        | (go_at_call 32; go_loud (refine (ZS.out _ _ _ _ _ _ hsv4 hs4).mono ?_; rintro e w5 ⟨rfl, hb5⟩; have hb35 := bel_trans (bel_trans hbr hb4) hb5; have y0 := cell_by hb35 r0; have y1 := cell_by hb35 r1; have hz5 := hb35.size; have hsE := ((he'.since (bel_trans bw3 hb35)).al (.cells #[.slice A s.length c, .slice B es.length d] 46)).al (.cells #[] 58); have hOE := Own.empty entryK 58 (w5.alloc (.cells #[.slice A s.length c, .slice B es.length d] 46)) (w5.heap.size + 1) (fun k => k < w5.heap.size) (by simp) rfl; rw [World.size_alloc] at hOE; have hw5 := (bel_trans bw3 hb35).size; have y0' := cell_al2 y0 (.cells #[.slice A s.length c, .slice B es.length d] 46) (.cells #[] 58); have y1' := cell_al2 y1 (.cells #[.slice A s.length c, .slice B es.length d] 46) (.cells #[] 58); have p0 := cell_al (cell_new_at w5 #[.slice A s.length c, .slice B es.length d] 46 0 _ (.slice A s.length c) rfl rfl) (.cells #[] 58); have p1 := cell_al (cell_new_at w5 #[.slice A s.length c, .slice B es.length d] 46 1 _ (.slice B es.length d) rfl rfl) (.cells #[] 58); have z1 := froz_al (by simp) (froz_new_at w5 #[.slice A s.length c, .slice B es.length d] 46 1 _ rfl) (.cells #[] 58)))
        | (at_builtin; go_loud (refine wpList_append_sl entryK elemEntry rfl _ _ 44 rfl Tryz.underlying44 rfl hO7' rfl hsN (deepF (fun k hk h => by have := (hO7.lt k hk).1; have := (hO7.lt k hk).2; rcases h with h | h <;> omega) (fun _ h => h)) (deepF (fun k hk h => by have := (hO7.lt k hk).1; have := (hO7.lt k hk).2; rcases h with ⟨_, h⟩ | h <;> omega) (fun k h => by rcases h with ⟨_, h⟩ | h; exact .inl (by omega); exact .inr h)) ?_ ?_ ?_ ?_; (simp only [List.length_singleton]; unfold maxLen; omega); (simp only [List.length_singleton]; omega); (simp; omega); rintro v8 w8 ⟨hO8, hg8, hat8⟩; obtain ⟨A8, c8, rfl, _, _⟩ := hO8.sl.form; rw [show (es ++ [snapOf seq out]).length = es.length + 1 by simp] at hO8; have hO7b := hO7.lt; have t0 := cell_grown hg8 (fun e => by have := (hO7b _ e).1; omega) (cell_al u0 (.cells #[.int .i64 1, .int .i64 seq, .slice A3 out.length c3] 58)); have t1 := cell_grown hg8 (fun e => by have := (hO7b _ e).1; omega) (cell_al u1 (.cells #[.int .i64 1, .int .i64 seq, .slice A3 out.length c3] 58)); have zz2 := grown_froz hg8 (fun e => by have := (hO7b _ e).1; omega) (by simp; omega) (froz_al (by omega) zz1 (.cells #[.int .i64 1, .int .i64 seq, .slice A3 out.length c3] 58)); have hb58 : Below w5.heap.size w5 w8 := bel_grown (bel_alloc hb57 _) hg8 (fun k hk => by have := (hO7b _ hk).1; omega); have hs9 := hO8.sl.set (p := ⟨w5.heap.size, 1, none⟩) (.slice A8 (es.length + 1) c8) (by simp; omega); have hb39 := bel_set (bel_trans hb35 hb58) (p := ⟨w5.heap.size, 1, none⟩) (by simp; omega) (.slice A8 (es.length + 1) c8); have n0 := cell_set_off (o := 1) (u := .slice A8 (es.length + 1) c8) t0 (by omega); have n1 := cell_set_on (u := .slice A8 (es.length + 1) c8) t1))
        | (go_at_call 30; go_loud (refine (V2.out _ (bel_trans bw3 hb39) _ _ _ hs9 (by simp; omega)).mono ?_; rintro e wb ⟨⟨vb, seqb, viewb, ecb, rfl, hsb, hvb⟩, hbb⟩; obtain ⟨hgs, hcs⟩ := snap_ok HC.out.1 hgE HC.out.2.1 hl30 HC.out.2.2.2; obtain ⟨rfl, hcb⟩ := viewed_good (goodE_snap hgE HC.out.2.1) hgs hvb; obtain ⟨rfl, rfl⟩ := chain_det hcs hcb (goodE_snap hgE HC.out.2.1); obtain ⟨Ab, cb, rfl, _, _⟩ := hsb.form))
        | (go_at_call 32; go_loud (refine (ZS.out _ _ _ _ _ _ (HSV.out.below (bel_trans hb39 hbb)) hsb).mono ?_; rintro e wc ⟨rfl, hbc⟩))
        | (at_builtin; go_loud (refine wpList_append_sl entryK elemEntry rfl _ _ 44 rfl Tryz.underlying44 rfl hOE rfl hsE (deepF (fun k hk h => by have := (hOE.lt k hk).1; omega) (fun _ h => h)) (deepF (fun k hk h => by have := (hOE.lt k hk).1; omega) (fun k h => by omega)) (by simp only [List.length_nil]; unfold maxLen; omega) (by simp only [List.length_nil]; omega) (by simp) ?_; rintro v7 w7 ⟨hO7, hg7, hat7⟩; rw [List.nil_append] at hO7; have hnb7 : ∀ k, (Value.slice (some ⟨w5.heap.size + 1, 0, none⟩) 0 0).ownBlock = some k → w5.heap.size + 1 ≤ k := (fun k hk => (hOE.lt k hk).1); have u0 := cell_grown hg7 (fun e => by have := hnb7 _ e; omega) p0; have u1 := cell_grown hg7 (fun e => by have := hnb7 _ e; omega) p1; have hz7 := hg7.size; simp only [World.size_alloc] at hz7; have zz1 := grown_froz hg7 (fun e => by have := hnb7 _ e; omega) (by simp only [World.size_alloc]; omega) z1; have hb57 : Below w5.heap.size w5 w7 := bel_grown (bel_alloc (bel_alloc (Below.refl _ _) _) _) hg7 (fun k hk => by have := hnb7 k hk; omega); have hO7' := (hO7.below (bel_alloc (Below.refl _ _) (.cells #[.int .i64 1, .int .i64 seq, .slice A3 out.length c3] 58))).wid (F' := fun k => k < w5.heap.size ∨ k = w7.heap.size) (fun k h _ => .inl h); have hsN := entry_new (w := w7) (e := snapOf seq out) ((HSV.out.since (bel_trans hb35 hb57))) (show I64 1 from ⟨by decide, by decide⟩) HI.out)))
      go_ret
      exact ⟨rfl, HB0.out _ (bel_trans bw3 (bel_trans (bel_trans hb39 hbb) hbc))⟩
end Go.Proofs.YtlhdndnohmikeaaGreatDoor
