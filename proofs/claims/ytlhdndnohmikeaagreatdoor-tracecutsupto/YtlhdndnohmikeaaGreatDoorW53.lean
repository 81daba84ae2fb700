/-
  Walks: law 13, TraceCuts.
-/
import Derived.Test.YtlhdndnohmikeaaGreatDoorW52
import Derived.Test.YtlhdndnohmikeaaGreatDoorP2
set_option linter.unusedVariables false
set_option linter.unusedSimpArgs false
namespace Go.Proofs.YtlhdndnohmikeaaGreatDoor
open Go.RowKit

theorem encoded_pre {s : List Col} {es : List Entry} {out : List UInt8} {n ec : Int} {k : Nat} (hg : GoodE es) (h1 : Good1 s es) (hk : k ≤ es.length) (h : Encoded s (es.take k) out n ec) : ec = 0 ∧ n = k ∧ out = traceBytes s (es.take k) := by
  obtain ⟨a, b, c⟩ := encoded_good (hg.take k) (good1_take h1 k) h
  exact ⟨a, by rw [b, List.length_take, Nat.min_eq_left hk], c⟩
theorem trace_pre (s : List Col) (es : List Entry) (k : Nat) : (traceBytes s (es.take k)).length ≤ (traceBytes s es).length ∧ (traceBytes s es).take (traceBytes s (es.take k)).length = traceBytes s (es.take k) := by
  have h := traceBytes_take s es k
  generalize traceBytes s (es.take k) = a at *
  generalize traceBytes s es = b at *
  subst h
  exact ⟨by rw [List.length_append]; omega, List.take_left⟩
theorem trace_head (s : List Col) (es : List Entry) : (headBytes s).length ≤ (traceBytes s es).length ∧ (traceBytes s es).take (headBytes s).length = headBytes s := by
  unfold traceBytes
  exact ⟨by rw [List.length_append]; omega, List.take_left⟩
/-- The beginning of bytes that are there, as a string. -/
theorem str_cut {w : World} {F : Nat → Prop} {A : Option Addr} {bs t : List UInt8} {c : Nat} (h : SL byteK w F (.slice A bs.length c) bs) (hl : t.length ≤ bs.length) (ht : bs.take t.length = t) :
    (convert 36 9 (.slice (cutA A 0 c 1) t.length c)).run Tryz.prog w = .ok (.string ⟨t.toArray⟩) w := by
  have h1 : bs.length ≤ c := by
    obtain ⟨A', c', e, h1, _⟩ := h.form
    injection e with _ _ e
    omega
  have hct := h.cut (l := 0) (h := t.length) (m := c) (by omega) hl (by omega) (Nat.le_refl _)
  rw [List.drop_zero, Nat.sub_zero, Nat.sub_zero, ht] at hct
  exact str_of_sl hct
set_option maxRecDepth 100000 in
set_option maxHeartbeats 4000000 in
theorem cuts_calls (s : List Col) (es : List Entry) (vs ve : Value) (w : World) (F G : Nat → Prop) (hG : Glob w) (hs : SL colK w F vs s) (he : SL entryK w G ve es) (hn : (pairsOf es).length ≤ 1099511627776) (hne : es.length ≤ 1099511627776) :
    Calls Tryz.prog 4 #[.agg #[vs, ve]] w fun e w' => e = .returned (.bool true) ∧ Below w.heap.size w w' := by
  obtain ⟨A, c, rfl, hc1, hc2⟩ := hs.form
  obtain ⟨B, d, rfl, hd1, hd2⟩ := he.form
  have hb0 : Below w.heap.size w (w.alloc (.cells #[.slice A s.length c, .slice B es.length d] 46)) := bel_alloc (Below.refl _ _) _
  have c0 := cell_new_at w #[.slice A s.length c, .slice B es.length d] 46 0 _ (.slice A s.length c) rfl rfl
  have c1 := cell_new_at w #[.slice A s.length c, .slice B es.length d] 46 1 _ (.slice B es.length d) rfl rfl
  have hG' := hG.below hb0
  have hs' := hs.below hb0
  have he' := he.below hb0
  have hgE := sl_goodE he
  clear hG hs he
  generalize hwa : w.alloc (.cells #[.slice A s.length c, .slice B es.length d] 46) = wa at *
  have AL := Lib.hid (fun W (hb : Below wa.heap.size wa W) => alive13_calls W (hG'.below hb))
  have GR := Lib.hid (fun W (hb : Below wa.heap.size wa W) => great13_calls s es _ _ W _ _ (hs'.below hb) (he'.below hb) hn)
  have EN := Lib.hid (fun W (hb : Below wa.heap.size wa W) => encode_calls s es _ _ W _ _ (hG'.below hb) (hs'.below hb) (he'.below hb) hne)
  have hw : wa.heap.size = w.heap.size + 1 := by rw [← hwa]; simp
  have HB0 := Lib.hid (fun (W : World) (h : Below wa.heap.size wa W) => bel_trans hb0 h)
  clear hb0
  have HWA := Lib.hid hwa
  clear hwa
  go_enter Tryz.func4, Tryz.ntmps4
  go_wp2_with fail
  rw [HWA.out]
  clear HWA
  go_wp2_with (first
    | (go_at_call 27; go_loud (refine (GR.out _ (by assumption)).mono ?_; rintro e w2 ⟨⟨n2, rfl⟩, hb2⟩; have hbw2 := bel_trans hb1 hb2; have m0 := cell_by hb2 k0; have m1 := cell_by hb2 k1))
    | (go_at_call 26; (refine (AL.out _ (Below.refl _ _)).mono ?_; rintro e w1 ⟨rfl, hb1⟩; have k0 := cell_lo hb1 (by show w.heap.size < _; omega) c0; have k1 := cell_lo hb1 (by show w.heap.size < _; omega) c1))
    | (go_at_call 26; go_loud (refine (AL.out _ hbw2).mono ?_; rintro e w9 ⟨rfl, hb9⟩))
    | (go_at_call 28; go_loud (refine (EN.out _ hbw2).mono ?_; rintro e w3 ⟨⟨vo, n3, ec3, out3, rfl, ho3, hen⟩, hb3⟩; obtain ⟨A3, c3, rfl, _, _⟩ := ho3.sl.form; have bw3 := bel_trans hbw2 hb3; have r0 := cell_by hb3 m0; have r1 := cell_by hb3 m1; have HO3 := Lib.hid (And.intro ho3 hen); clear ho3 hen; rcases Decidable.em (ec3 = 0) with rfl | hec; rotate_left 1; have g3 := bne_true hec; clear hec; rotate_left 1)))
  all_goals first | (go_ret; exact ⟨rfl, HB0.out _ (bel_trans hbw2 hb9)⟩) | (go_ret; exact ⟨rfl, HB0.out _ bw3⟩) | skip
  obtain ⟨ho3, hen3⟩ := HO3.out
  obtain ⟨hg1, rfl, rfl⟩ := encoded_ok hen3
  have hcl : (traceBytes s es).length ≤ c3 := by obtain ⟨A', c', e, h, _⟩ := ho3.sl.form; cases e; exact h
  have EP := Lib.hid (fun W (hb : Below wa.heap.size wa W) (k : Nat) (hk : k ≤ es.length) => encode_calls s (es.take k) (.slice A s.length c) (.slice (cutA B 0 d 3) k d) W _ _ (hG'.below hb) (hs'.below hb) (by
    have := (he'.below hb).cut (l := 0) (h := k) (m := d) (by omega) hk (by omega) (Nat.le_refl _)
    rw [List.drop_zero, Nat.sub_zero, Nat.sub_zero] at this
    exact this) (by rw [List.length_take]; omega))
  have EPP := Lib.hid (fun k (hk : k ≤ es.length) out n ec h => encoded_pre (out := out) (n := n) (ec := ec) hgE hg1 hk h)
  have TP := Lib.hid (fun k => trace_pre s es k)
  have TH := Lib.hid (trace_head s es)
  have HD := Lib.hid (fun W (hb : Below wa.heap.size wa W) => head_calls s (.slice A s.length c) W F (hG'.below hb) (hs'.below hb))
  simp only [hg1.1, if_true] at HD
  have hsl : ∀ (k : Nat) (hk : k ≤ es.length) W, (Instr.slice 44 (.slice B es.length d) none (some (.int .i64 (k : Int))) none).run Tryz.prog W = .ok (.slice (cutA B 0 d 3) k d) W := fun k hk W => el_cut_h elemEntry Tryz.underlying44 B es.length d k (by omega) W
  have HSL := Lib.hid hsl
  have hsb : ∀ (k : Nat) (hk : k ≤ c3) W, (Instr.slice 36 (.slice A3 (traceBytes s es).length c3) none (some (.int .i64 (k : Int))) none).run Tryz.prog W = .ok (.slice (cutA A3 0 c3 1) k c3) W := fun k hk W => el_cut_h elemByte Tryz.underlying36 A3 _ c3 k hk W
  have HSB := Lib.hid hsb
  have HCL := Lib.hid hcl
  have HO := Lib.hid (fun W (hb : Below w3.heap.size w3 W) => ho3.sl.below hb)
  clear hsl hsb hcl ho3 hen3 HO3 EN AL GR hgE hs' he' hG' hb1 hb2 hb3 k0 k1 m0 m1 c0 c1 hbw2
  generalize hob : traceBytes s es = ob at *
  generalize hB : cutA B 0 d 3 = Bc at *
  have STR := Lib.hid (fun W F (h : SL byteK W F (.slice A3 ob.length c3) ob) t hl ht => str_cut (t := t) h hl ht)
  generalize hA : cutA A3 0 c3 1 = Ac at *
  clear hob hB hA
  have hw3 : w.heap.size < w3.heap.size := World.block_lt_of_cell? w3 _ r0
  go_loopw [32] (fun i wr => ∃ k : Nat, i = .int .i64 k ∧ k ≤ es.length + 1 ∧ Below w3.heap.size w3 wr) (fun i _ => es.length + 1 - (intOf i).toNat)
  case atStart => exact ⟨0, rfl, by omega, Below.refl _ _⟩
  case round =>
    obtain ⟨k, rfl, hk, hbr⟩ := hrel
    have q0 := cell_by hbr r0
    have q1 := cell_by hbr r1
    by_cases hlt : k ≤ es.length
    · have k1 : (k : Int) < es.length + 1 := by omega
      have EPk := Lib.hid (fun W (hb : Below wr.heap.size wr W) => EP.out W (bel_trans bw3 (bel_trans hbr hb)) k hlt)
      have hslk := HSL.out k hlt
      have EKP := Lib.hid (fun out n ec h => EPP.out k hlt out n ec h)
      have TPk := Lib.hid (TP.out k)
      generalize traceBytes s (es.take k) = tk at *
      have hsbk := HSB.out tk.length (Nat.le_trans TPk.out.1 HCL.out)
      go_wp2_with fail
      go_region_held3 (fun w' => w'.cell? ⟨w.heap.size, 0, none⟩ = some (.slice A s.length c) ∧ w'.cell? ⟨w.heap.size, 1, none⟩ = some (.slice B es.length d))
        (first
          | exact ⟨q0, q1⟩
          | (go_split_ands; exact ⟨cell_by hb4 (by assumption), cell_by hb4 (by assumption)⟩))
        (first | (go_at_call 28; go_loud (refine (EPk.out _ (bel_drew (Below.refl _ _))).mono ?_; rintro e w4 ⟨⟨vo, n4, ec4, out4, rfl, ho4, hen4⟩, hb4⟩; obtain ⟨rfl, rfl, rfl⟩ := EKP.out _ _ _ hen4; obtain ⟨A4, c4, rfl, _, _⟩ := ho4.sl.form)))
      go_wp2_with fail
      have hbw4 : Below w3.heap.size w3 w4 := bel_trans hbr (bel_trans (bel_drew (Below.refl _ _)) hb4)
      have e1 := str_of_sl ho4.sl.drew
      have e2 := STR.out _ _ (HO.out _ hbw4).drew _ TPk.out.1 TPk.out.2
      have dd : decide (ob.length < out4.length) = false := decide_eq_false (by have := TPk.out.1; omega)
      have dd2 : decide ((ob.length : Int) < out4.length) = false := decide_eq_false (by have := TPk.out.1; omega)
      have mx := mixed
      go_big_region_o
      go_wp2_with fail
      go_roundw
      case rel => exact ⟨k + 1, by go_num, by omega, bel_drew hbw4⟩
      case measure => simp [intOf]; omega
    · have k1 : ¬ (k : Int) < es.length + 1 := by omega
      have HDr := Lib.hid (HD.out wr (bel_trans bw3 hbr))
      generalize headBytes s = hbs at *
      have hsbh := HSB.out hbs.length (Nat.le_trans TH.out.1 HCL.out)
      go_wp2_with (go_at_call 29; go_loud (refine HDr.out.mono ?_; rintro e w5 ⟨⟨v5, rfl, ho5⟩, hb5⟩; obtain ⟨A5, c5, rfl, _, _⟩ := ho5.sl.form))
      have e1 := str_of_sl ho5.sl.drew
      have e2 := STR.out _ _ (HO.out _ (bel_trans hbr hb5)).drew _ TH.out.1 TH.out.2
      have dd : decide (hbs.length ≤ ob.length) = true := decide_eq_true TH.out.1
      have dd2 : decide ((hbs.length : Int) ≤ ob.length) = true := decide_eq_true (by have := TH.out.1; omega)
      have mx := mixed
      go_big_region_o
      go_wp2_with fail
      go_ret
      exact ⟨rfl, HB0.out _ (bel_trans bw3 (bel_drew (bel_trans hbr hb5)))⟩
end Go.Proofs.YtlhdndnohmikeaaGreatDoor
