/-
  Walks: what is ahead of all entries.
-/
import Derived.Test.YtlhdndnohmikeaaGreatDoorW30
import Derived.Lib.SlBytesConst
set_option linter.unusedVariables false
set_option linter.unusedSimpArgs false
namespace Go.Proofs.YtlhdndnohmikeaaGreatDoor
open Go.RowKit

def magicL : List UInt8 := [68, 75, 76, 49]
/-- A trace's head. -/
def headBytes (s : List Col) : List UInt8 := magicL ++ frameBytes 0 (schemaBytes s)
theorem schemaBytes_len {s : List Col} (h : schemaCheck s = 0) : (schemaBytes s).length ≤ 354 := by
  have h1 := schemaBody_len s fun c hc => (schemaCheck_fine h c hc).1
  have h2 := schemaCheck_len h
  have h3 := wireUint_len10 (s.length : Int)
  unfold schemaBytes
  rw [List.length_append]
  omega
theorem crcPut_len (x : Int) : (crcPut x).length = 4 := by simp [crcPut]
theorem frameBytes_len (k : Int) (p : List UInt8) : (frameBytes k p).length ≤ p.length + 15 := by
  have := wireUint_len10 (p.length : Int)
  simp only [frameBytes, crcSeal, wireBytes, List.length_append, List.length_cons, crcPut_len]
  omega
theorem magic_sl (w : World) (fr : Nat × Nat) : SL byteK (w.alloc (.cells #[.int .u8 68, .int .u8 75, .int .u8 76, .int .u8 49] 5 fr)) (fun _ => True) (.slice (some ⟨w.heap.size, 0, none⟩) 4 4) magicL := by
  refine ⟨_, 4, [.int .u8 68, .int .u8 75, .int .u8 76, .int .u8 49], rfl, by simp [magicL], by unfold maxLen; omega, fun _ => ⟨_, rfl, trivial, by simp, fun j u hu => ?_⟩, .cons (c := [.int .u8 68]) ⟨rfl, trivial⟩ (.cons (c := [.int .u8 75]) ⟨rfl, trivial⟩ (.cons (c := [.int .u8 76]) ⟨rfl, trivial⟩ (.cons (c := [.int .u8 49]) ⟨rfl, trivial⟩ .nil)))⟩
  rw [show ((⟨w.heap.size, 0, none⟩ : Addr).add j) = ⟨w.heap.size, j, none⟩ by unfold Addr.add; split <;> simp_all]
  rw [World.cell?_alloc_mark]
  simpa using hu
set_option maxRecDepth 100000 in
set_option maxHeartbeats 1000000 in
theorem head_calls (s : List Col) (v : Value) (w : World) (F : Nat → Prop) (hG : Glob w) (hs : SL colK w F v s) :
    Calls Tryz.prog 29 #[v] w fun e w' => (∃ vo, e = .returned (.tuple #[vo, .int .i64 (schemaCheck s)]) ∧ Own byteK 5 w' w.heap.size (fun _ => False) vo (if schemaCheck s = 0 then headBytes s else [])) ∧ Below w.heap.size w w' := by
  have SW := Lib.hid (schemaWrite_calls s v w F hG hs)
  obtain ⟨A, c, rfl, _, _⟩ := hs.form
  by_cases h0 : schemaCheck s = 0
  · have hl := schemaBytes_len h0
    have hl2 := frameBytes_len 0 (schemaBytes s)
    rw [if_pos h0]
    simp only [if_pos h0, h0] at SW ⊢
    clear h0
    have hfe : frameErr 0 (schemaBytes s) = 0 := by unfold frameErr; rw [if_neg (by omega), if_neg (by omega)]
    have FW := Lib.hid (fun W A c (h : SL byteK W (fun _ => True) (.slice A (schemaBytes s).length c) (schemaBytes s)) => frameWrite_calls 0 (schemaBytes s) _ W _ (by unfold I64; omega) h)
    rw [hfe] at FW
    simp only [if_true] at FW
    clear hfe
    have hfp : 0 < (frameBytes 0 (schemaBytes s)).length := by simp [frameBytes, crcSeal]
    have hcv := fun W => Lib.run_convert_bytes_const (P := Tryz.prog) W 36 5 #[.int .u8 68, .int .u8 75, .int .u8 76, .int .u8 49] 4 4 Tryz.underlying36 Tryz.underlying5
    have HB : Hid (headBytes s = magicL ++ frameBytes 0 (schemaBytes s)) := rfl
    generalize frameBytes 0 (schemaBytes s) = fb at *
    generalize schemaBytes s = sb at *
    have hl4 : magicL.length = 4 := rfl
    go_enter Tryz.func29, Tryz.ntmps29
    go_wp2_with (first
      | (go_at_call 67; refine SW.out.mono ?_; rintro e w1 ⟨⟨v1, rfl, ho1⟩, hb1⟩; obtain ⟨A1, c1, rfl, _, _⟩ := ho1.sl.form)
      | (go_at_call 68; refine (FW.out _ _ _ ho1.sl.any).mono ?_; rintro e w2 ⟨⟨v2, rfl, ho2⟩, hb2⟩; obtain ⟨A2, c2, rfl, _, _⟩ := ho2.sl.form; have hb3 := bel_trans hb1 hb2)
      | (at_builtin; refine wpList_append_full byteK elemByte rfl _ _ 36 rfl Tryz.underlying36 (H := fun _ => False) (xs := magicL) rfl rfl (magic_sl w2 _) rfl (ho2.sl.al _) (by omega) hfp flatB flatB (by unfold maxLen; omega) (by omega) ?_; rintro v5 w5 ho5 hb5))
    refine bodyPost_ret (results_tmp2 rfl _ _ _) rfl ⟨⟨_, rfl, ?_⟩, bel_trans (bel_alloc hb3 _) hb5⟩
    rw [HB.out]
    exact ho5.lower (by have := hb3.size; simp; omega)
  · rw [if_neg h0]
    simp only [if_neg h0] at SW
    obtain ⟨x, hx⟩ : ∃ x, schemaCheck s = x := ⟨_, rfl⟩
    rw [hx] at SW h0 ⊢
    have g0 := bne_true h0
    clear hx h0
    go_enter Tryz.func29, Tryz.ntmps29
    go_wp2_with (first
      | (go_at_call 67; refine SW.out.mono ?_; rintro e w1 ⟨⟨v1, rfl, ho1⟩, hb1⟩))
    exact bodyPost_ret (results_tmp2 rfl _ _ _) rfl ⟨⟨_, rfl, Own.nil _ _ _ _ _⟩, hb1⟩
end Go.Proofs.YtlhdndnohmikeaaGreatDoor
