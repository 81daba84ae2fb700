/-
  Walks: a schema, written.
-/
import Derived.Test.YtlhdndnohmikeaaGreatDoorMW26
import Derived.Test.YtlhdndnohmikeaaGreatDoorMW5
set_option linter.unusedVariables false
set_option linter.unusedSimpArgs false
namespace Go.Proofs.YtlhdndnohmikeaaGreatDoor
open Go.RowKit

/-- A schema's bytes. -/
def schemaBody : List Col → List UInt8
  | [] => []
  | c :: cs => wireBytes (strBytes c.name) ++ UInt8.ofNat c.kind.toNat :: schemaBody cs
def schemaBytes (s : List Col) : List UInt8 := wireUint (s.length : Int) ++ schemaBody s
theorem schemaBody_snoc (a : List Col) (c : Col) : schemaBody (a ++ [c]) = schemaBody a ++ wireBytes (strBytes c.name) ++ [UInt8.ofNat c.kind.toNat] := by
  induction a with
  | nil => simp [schemaBody]
  | cons x xs ih => simp [schemaBody, ih]

theorem colLoop_fine : ∀ {l : List Col} {seen : List ByteArray}, colLoop l seen = 0 → ∀ c ∈ l, c.name.size ≤ 32 ∧ 0 ≤ c.kind ∧ c.kind < 6
  | [], _, _, _, h => by cases h
  | x :: l, seen, h, c, hc => by
    simp only [colLoop] at h
    split at h
    · omega
    · split at h
      · omega
      · split at h
        · omega
        · rename_i h1 _ h3
          rcases List.mem_cons.1 hc with rfl | hc
          · simp [colKindB] at h3
            omega
          · exact colLoop_fine h c hc
theorem schemaCheck_len {s : List Col} (h : schemaCheck s = 0) : 0 < s.length ∧ s.length ≤ 8 := by
  unfold schemaCheck at h
  split at h
  · omega
  · split at h
    · omega
    · omega
theorem schemaCheck_fine6 {s : List Col} (h : schemaCheck s = 0) : ∀ c ∈ s, 0 ≤ c.kind ∧ c.kind < 6 := by
  unfold schemaCheck at h
  split at h
  · omega
  · split at h
    · omega
    · exact fun c hc => (colLoop_fine h c hc).2
theorem schemaCheck_fine {s : List Col} (h : schemaCheck s = 0) : ∀ c ∈ s, c.name.size ≤ 32 ∧ 0 ≤ c.kind ∧ c.kind < 256 := by
  unfold schemaCheck at h
  split at h
  · omega
  · split at h
    · omega
    · exact fun c hc => by have := colLoop_fine h c hc; omega

theorem schemaBody_len : ∀ (l : List Col), (∀ c ∈ l, c.name.size ≤ 32) → (schemaBody l).length ≤ 43 * l.length
  | [], _ => by simp [schemaBody]
  | c :: l, h => by
    have h1 := schemaBody_len l fun x hx => h x (by simp [hx])
    have h2 := h c (by simp)
    have h3 := wireUint_len10 (c.name.size : Int)
    simp only [schemaBody, wireBytes, List.length_append, List.length_cons, strBytes_len]
    omega

set_option maxRecDepth 100000 in
set_option maxHeartbeats 4000000 in
theorem schemaWrite_yes (s : List Col) (v : Value) (w : World) (F : Nat → Prop) (hG : Glob w) (hs : SL colK w F v s) (h0 : schemaCheck s = 0) :
    Calls Tryz.prog 67 #[v] w fun e w' => (∃ vo, e = .returned (.tuple #[vo, .int .i64 0]) ∧ Own byteK 5 w' w.heap.size (fun _ => False) vo (schemaBytes s)) ∧ Below w.heap.size w w' := by
  have hl := hs.len_le
  unfold maxLen at hl
  have hfine := Lib.hid (schemaCheck_fine h0)
  have h8 := schemaCheck_len h0
  obtain ⟨A, c, rfl, _, _⟩ := hs.form
  have SC := Lib.hid (schemaCheck_calls s _ w F hG hs)
  rw [h0] at SC
  clear h0
  have WU := Lib.hid (fun W => wireUint_calls (s.length : Int) W ⟨by omega, by omega⟩)
  have hcap : ∀ (W : World) (x : ByteArray), x.size ≤ maxLen → x.size ≤ grownCap W x.size 0 5 ∧ grownCap W x.size 0 5 ≤ maxLen := fun W x hx => ⟨grownCap_ge _ _ _ _, grownCap_le_maxLen _ _ _ _ hx⟩
  have HCAP := Lib.hid hcap
  have hlen : ∀ k, k ≤ s.length → (wireUint (s.length : Int) ++ schemaBody (s.take k)).length ≤ 10 + 43 * k := fun k hk => by
    rw [List.length_append]
    have h1 := wireUint_len10 (s.length : Int)
    have h2 := schemaBody_len (s.take k) (fun c hc => (hfine.out c (List.mem_of_mem_take hc)).1)
    rw [List.length_take] at h2
    have : min k s.length = k := by omega
    rw [this] at h2
    omega
  have HLEN := Lib.hid hlen
  clear hcap hlen
  go_enter Tryz.func67, Tryz.ntmps67
  go_wp2_with (first
    | (go_at_call 69; refine SC.out.mono ?_; rintro e w1 ⟨rfl, hb1⟩)
    | (go_at_call 89; refine (WU.out _).mono ?_; rintro e w2 ⟨⟨v2, rfl, ho2⟩, hb2⟩))
  have hst : Own byteK 5 w2 w.heap.size (fun _ => False) v2 (wireUint (s.length : Int) ++ schemaBody (s.take 0)) := by simpa [schemaBody] using ho2.lower hb1.size
  have hbw2 := bel_trans hb1 hb2
  go_loopw [19, 5] (fun vi vo wr => ∃ k : Nat, k ≤ s.length ∧ vi = .int .i64 k ∧ Own byteK 5 wr w.heap.size (fun _ => False) vo (wireUint (s.length : Int) ++ schemaBody (s.take k)) ∧ Below w.heap.size w wr) (fun vi _ _ => s.length - (intOf vi).toNat)
  case atStart => exact ⟨0, by omega, by simp, hst, hbw2⟩
  case round =>
    obtain ⟨k, hk, rfl, hO, hbr⟩ := hrel
    by_cases hlt : k < s.length
    · obtain ⟨ad, rfl, l1, x0, x1, x2, x3⟩ := col_at (hs.below hbr) hlt
      have k0 : (k : Int) < s.length := by omega
      have hfk := hfine.out s[k] (List.getElem_mem hlt)
      have hlk := HLEN.out k hk
      have hsn : schemaBody (s.take (k + 1)) = schemaBody (s.take k) ++ wireBytes (strBytes s[k].name) ++ [UInt8.ofNat s[k].kind.toNat] := by rw [List.take_succ_eq_append_getElem hlt, schemaBody_snoc]
      obtain ⟨nm, hnm⟩ : ∃ x, s[k].name = x := ⟨_, rfl⟩
      obtain ⟨kd, hkd⟩ : ∃ x, s[k].kind = x := ⟨_, rfl⟩
      rw [hnm] at x0 x3 hfk hsn
      rw [hkd] at x1 x2 hfk hsn
      obtain ⟨n32, k0', k1'⟩ := hfk
      have hcap := HCAP.out
      have hwb : (wireBytes (strBytes nm)).length ≤ 42 := by unfold wireBytes; rw [List.length_append, strBytes_len]; have := wireUint_len10 (nm.size : Int); omega
      have hle : 10 + 43 * k ≤ 400 := by omega
      generalize hacc : wireUint (s.length : Int) ++ schemaBody (s.take k) = acc at hO hlk
      have HB := Lib.hid (show wireUint (s.length : Int) ++ schemaBody (s.take (k + 1)) = acc ++ wireBytes (strBytes nm) ++ [UInt8.ofNat kd.toNat] by rw [hsn, ← List.append_assoc, ← List.append_assoc, hacc])
      clear hsn hacc
      have kk : IntKind.u8.wrap kd = kd := by unfold IntKind.wrap; simp [IntKind.bits, IntKind.signed]; omega
      have hcv := fun w s => run_bytes_of_string (P := Tryz.prog) w 9 36 5 s Tryz.underlying9 Tryz.underlying36 Tryz.underlying5
      have WB := Lib.hid (fun W A c (h : SL byteK W (fun k => wr.heap.size ≤ k) (.slice A nm.size c) (strBytes nm)) => wireBytes_calls (strBytes nm) _ W _ h (by rw [strBytes_len]; omega))
      clear hnm hkd
      go_wp2
      refine wp_region_noPanic ?_
      refine wp_region_held_drew (S := fun w' => w'.cell? ⟨wr.heap.size, 0, none⟩ = some (.string nm) ∧ w'.cell? ⟨wr.heap.size, 1, none⟩ = some (.int .i64 kd)) (by kernel_rfl) ?_ (fun hHeld => ?_)
      · exact ⟨by simp, by simp⟩
      -- WAYS
      refine wpAnyH_take1 0 (v := ?v1) rfl (by kernel_rfl) (by kernel_rfl) (by kernel_rfl) (fun _ _ _ h => h) (by rfl) (fun w hSw => ?hy1) (by assumption) ?_
      case hy1 => ((try dsimp only at hSw); go_simp; (try with_reducible rfl))
      simp only [Act.put, List.setIfInBounds_toArray, List.set_cons_zero, List.set_cons_succ]
      refine wpAnyH_take1 1 (v := ?v2) rfl (by kernel_rfl) (by kernel_rfl) (by kernel_rfl) (fun _ _ _ h => h) (by rfl) (fun w hSw => ?hy2) (by assumption) ?_
      case hy2 => ((try dsimp only at hSw); go_simp; (try with_reducible rfl))
      simp only [Act.put, List.setIfInBounds_toArray, List.set_cons_zero, List.set_cons_succ]
      refine wpAnyH_take1 2 (v := ?v3) rfl (by kernel_rfl) (by kernel_rfl) (by kernel_rfl) (fun _ _ _ h => h) (by rfl) (fun w hSw => ?hy3) (by assumption) ?_
      case hy3 => ((try dsimp only at hSw); go_simp; (try with_reducible rfl))
      simp only [Act.put, List.setIfInBounds_toArray, List.set_cons_zero, List.set_cons_succ]
      refine wpAnyH_take1 6 (v := ?v4) rfl (by kernel_rfl) (by kernel_rfl) (by kernel_rfl) (fun _ _ _ h => h) (by rfl) (fun w hSw => ?hy4) (by assumption) ?_
      case hy4 => ((try dsimp only at hSw); go_simp; (try with_reducible rfl))
      simp only [Act.put, List.setIfInBounds_toArray, List.set_cons_zero, List.set_cons_succ]
      refine wpAnyH_take1 7 (v := ?v5) rfl (by kernel_rfl) (by kernel_rfl) (by kernel_rfl) (fun _ _ _ h => h) (by rfl) (fun w hSw => ?hy5) (by assumption) ?_
      case hy5 => ((try dsimp only at hSw); go_simp; (try with_reducible rfl))
      simp only [Act.put, List.setIfInBounds_toArray, List.set_cons_zero, List.set_cons_succ]
      refine wpAnyH_take1 8 (v := ?v6) rfl (by kernel_rfl) (by kernel_rfl) (by kernel_rfl) (fun _ _ _ h => h) (by rfl) (fun w hSw => ?hy6) (by assumption) ?_
      case hy6 => ((try dsimp only at hSw); go_simp; (try with_reducible rfl))
      simp only [Act.put, List.setIfInBounds_toArray, List.set_cons_zero, List.set_cons_succ]
      refine wpAnyH_ready (rs := [3, 9]) (by kernel_rfl) (by simp) ?_
      refine AllReadyH.cons1 rfl (by rfl) (fun K hK => ?_) (AllReadyH.cons1 rfl (by rfl) (fun K hK => ?_) (AllReadyH.nil))
      · skip
        go_simp
        refine hK.out _ _ ?_ (fun hHeld => ?_)
        · exact ⟨cell_al hHeld.1 _, cell_al hHeld.2 _⟩
        clear hK K
        (try simp only [Act.put, List.setIfInBounds_toArray, List.set_cons_zero, List.set_cons_succ])
        refine wpAnyH_ready (rs := [4, 9]) (by kernel_rfl) (by simp) ?_
        refine AllReadyH.cons1 rfl (by rfl) (fun K hK => ?_) (AllReadyH.cons1 rfl (by rfl) (fun K hK => ?_) (AllReadyH.nil))
        · skip
          go_simp
          refine (WB.out _ _ _ ?hs8).mono ?_
          case hs8 => (repeat (first | assumption | (refine oneB _ _ _ _ k0' k1' ?_ ?_ <;> (first | omega | (simp; done) | (simp; omega))) | (refine strB _ _ _ _ _ _ _ (hcap _ _ x3).1 (hcap _ _ x3).2 ?_ ?_ <;> (first | omega | (simp; done) | (simp; omega))) | refine SL.drew ?_ | refine SL.al ?_ _ | refine hk5 ?_ | refine SL.below ?_ hb2))
          rintro e w2 ⟨⟨v2', rfl, ho2'⟩, hb2⟩
          obtain ⟨A2, c2, rfl, _, _⟩ := ho2'.sl.form
          have hbc : Below wr.heap.size wr w2 := Below.trans (by repeat (first | assumption | exact Below.refl _ _ | refine bel_drew ?_ | refine bel_alloc ?_ _)) (hb2.mono (by simp; try omega))
          have hs2 : SL byteK w2 (fun k => wr.heap.size ≤ k) _ _ := ho2'.above (by simp; try omega) (fun _ h => h.elim)
          have hz2 : wr.heap.size < w2.heap.size := by have := hb2.size; simp at this; omega
          refine hK.out _ _ ?_ (fun hHeld => ?_)
          · exact ⟨cell_by hb2 hHeld.1, cell_by hb2 hHeld.2⟩
          clear hK K
          (try simp only [Act.put, List.setIfInBounds_toArray, List.set_cons_zero, List.set_cons_succ])
          refine wpAnyH_ready (rs := [5, 9]) (by kernel_rfl) (by simp) ?_
          refine AllReadyH.cons1 rfl (by rfl) (fun K hK => ?_) (AllReadyH.cons1 rfl (by rfl) (fun K hK => ?_) (AllReadyH.nil))
          · skip
            refine wp_append_sl byteK elemByte _ _ 36 rfl Tryz.underlying36 rfl (hO.below ?b19) rfl (G := fun k => wr.heap.size ≤ k) (ys := wireBytes (strBytes nm)) ?s19 flatF flatF ?l19 ?l29 ?l39 ?_
            case b19 => (repeat (first | assumption | exact Below.refl _ _ | refine bel_drew ?_ | refine bel_alloc ?_ _))
            case s19 => (repeat (first | assumption | (refine oneB _ _ _ _ k0' k1' ?_ ?_ <;> (first | omega | (simp; done) | (simp; omega))) | (refine strB _ _ _ _ _ _ _ (hcap _ _ x3).1 (hcap _ _ x3).2 ?_ ?_ <;> (first | omega | (simp; done) | (simp; omega))) | refine SL.drew ?_ | refine SL.al ?_ _ | refine hk5 ?_ | refine SL.below ?_ hb2))
            case l19 => (unfold maxLen; omega)
            case l29 => omega
            case l39 => (have := hbr.size; have := hbc.size; simp; try omega)
            rintro v5 w5 ⟨ho5, hg5, ha5⟩
            have hk5 := @keepRow _ _ wr.heap.size _ hg5 (fun k hk => (hO.lt k hk).2)
            have hbw5 : Below w.heap.size w w5 := bel_grown (bel_trans hbr (by repeat (first | assumption | exact Below.refl _ _ | refine bel_drew ?_ | refine bel_alloc ?_ _))) hg5 (fun k hk => (hO.lt k hk).1)
            have hz5 : wr.heap.size < w5.heap.size := by have := hg5.size; (try simp at this); omega
            have hn5 : v5.ownBlock ≠ some wr.heap.size := row_ne ha5 (fun k hk => by have := (hO.lt k hk).2; omega) (by first | (simp; done) | (simp; omega) | omega)
            refine hK.out _ _ ?_ (fun hHeld => ?_)
            · exact ⟨cell_grown hg5 (fun e => by have := (hO.lt _ e).2; omega) hHeld.1, cell_grown hg5 (fun e => by have := (hO.lt _ e).2; omega) hHeld.2⟩
            clear hK K
            (try simp only [Act.put, List.setIfInBounds_toArray, List.set_cons_zero, List.set_cons_succ])
            refine wpAnyH_ready (rs := [9]) (by kernel_rfl) (by simp) ?_
            refine AllReadyH.cons1 rfl (by rfl) (fun K hK => ?_) (AllReadyH.nil)
            go_simp
            refine hK.out _ _ ?_ (fun hHeld => ?_)
            · exact ⟨cell_al hHeld.1 _, cell_al hHeld.2 _⟩
            clear hK K
            (try simp only [Act.put, List.setIfInBounds_toArray, List.set_cons_zero, List.set_cons_succ])
            refine wpAnyH_ready (rs := [10]) (by kernel_rfl) (by simp) ?_
            refine AllReadyH.cons1 rfl (by rfl) (fun K hK => ?_) (AllReadyH.nil)
            refine wp_append_sl byteK elemByte _ _ 36 rfl Tryz.underlying36 rfl (ho5.below ?b111) rfl (G := fun k => wr.heap.size ≤ k) (ys := [UInt8.ofNat kd.toNat]) ?s111 flatF flatF ?l111 ?l211 ?l311 ?_
            case b111 => (repeat (first | assumption | exact Below.refl _ _ | refine bel_drew ?_ | refine bel_alloc ?_ _))
            case s111 => (repeat (first | assumption | (refine oneB _ _ _ _ k0' k1' ?_ ?_ <;> (first | omega | (simp; done) | (simp; omega))) | (refine strB _ _ _ _ _ _ _ (hcap _ _ x3).1 (hcap _ _ x3).2 ?_ ?_ <;> (first | omega | (simp; done) | (simp; omega))) | refine SL.drew ?_ | refine SL.al ?_ _ | refine hk5 ?_ | refine SL.below ?_ hb2))
            case l111 => (unfold maxLen; simp only [List.length_append, List.length_singleton]; omega)
            case l211 => (simp only [List.length_append, List.length_singleton]; omega)
            case l311 => (have := hbw5.size; simp; try omega)
            rintro v6 w6 ⟨ho6, hg6, ha6⟩
            have hbw6 : Below w.heap.size w w6 := bel_grown (bel_trans hbw5 (by repeat (first | assumption | exact Below.refl _ _ | refine bel_drew ?_ | refine bel_alloc ?_ _))) hg6 (fun k hk => (ho5.lt k hk).1)
            refine hK.out _ _ ?_ (fun hHeld => ?_)
            · exact ⟨cell_grown hg6 hn5 hHeld.1, cell_grown hg6 hn5 hHeld.2⟩
            clear hK K
            (try simp only [Act.put, List.setIfInBounds_toArray, List.set_cons_zero, List.set_cons_succ])
            refine wpAnyH_take1 11 (v := ?v12) rfl (by kernel_rfl) (by kernel_rfl) (by kernel_rfl) (fun _ _ _ h => h) (by rfl) (fun w hSw => ?hy12) (by assumption) ?_
            case hy12 => ((try dsimp only at hSw); go_simp; (try with_reducible rfl))
            simp only [Act.put, List.setIfInBounds_toArray, List.set_cons_zero, List.set_cons_succ]
            refine wpAnyH_done (by kernel_rfl) ?_ _
            refine NoPanic.normal ?_
            go_wp2
            go_roundw
            case rel => exact ⟨k + 1, by omega, by go_num, by rw [HB.out]; exact ho6, hbw6⟩
            case measure => simp [intOf]; omega
          · skip
            go_simp
            refine hK.out _ _ ?_ (fun hHeld => ?_)
            · exact ⟨cell_al hHeld.1 _, cell_al hHeld.2 _⟩
            clear hK K
            (try simp only [Act.put, List.setIfInBounds_toArray, List.set_cons_zero, List.set_cons_succ])
            refine wpAnyH_ready (rs := [5]) (by kernel_rfl) (by simp) ?_
            refine AllReadyH.cons1 rfl (by rfl) (fun K hK => ?_) (AllReadyH.nil)
            refine wp_append_sl byteK elemByte _ _ 36 rfl Tryz.underlying36 rfl (hO.below ?b114) rfl (G := fun k => wr.heap.size ≤ k) (ys := wireBytes (strBytes nm)) ?s114 flatF flatF ?l114 ?l214 ?l314 ?_
            case b114 => (repeat (first | assumption | exact Below.refl _ _ | refine bel_drew ?_ | refine bel_alloc ?_ _))
            case s114 => (repeat (first | assumption | (refine oneB _ _ _ _ k0' k1' ?_ ?_ <;> (first | omega | (simp; done) | (simp; omega))) | (refine strB _ _ _ _ _ _ _ (hcap _ _ x3).1 (hcap _ _ x3).2 ?_ ?_ <;> (first | omega | (simp; done) | (simp; omega))) | refine SL.drew ?_ | refine SL.al ?_ _ | refine hk5 ?_ | refine SL.below ?_ hb2))
            case l114 => (unfold maxLen; omega)
            case l214 => omega
            case l314 => (have := hbr.size; have := hbc.size; simp; try omega)
            rintro v5 w5 ⟨ho5, hg5, ha5⟩
            have hk5 := @keepRow _ _ wr.heap.size _ hg5 (fun k hk => (hO.lt k hk).2)
            have hbw5 : Below w.heap.size w w5 := bel_grown (bel_trans hbr (by repeat (first | assumption | exact Below.refl _ _ | refine bel_drew ?_ | refine bel_alloc ?_ _))) hg5 (fun k hk => (hO.lt k hk).1)
            have hz5 : wr.heap.size < w5.heap.size := by have := hg5.size; (try simp at this); omega
            have hn5 : v5.ownBlock ≠ some wr.heap.size := row_ne ha5 (fun k hk => by have := (hO.lt k hk).2; omega) (by first | (simp; done) | (simp; omega) | omega)
            refine hK.out _ _ ?_ (fun hHeld => ?_)
            · exact ⟨cell_grown hg5 (fun e => by have := (hO.lt _ e).2; omega) hHeld.1, cell_grown hg5 (fun e => by have := (hO.lt _ e).2; omega) hHeld.2⟩
            clear hK K
            (try simp only [Act.put, List.setIfInBounds_toArray, List.set_cons_zero, List.set_cons_succ])
            refine wpAnyH_ready (rs := [10]) (by kernel_rfl) (by simp) ?_
            refine AllReadyH.cons1 rfl (by rfl) (fun K hK => ?_) (AllReadyH.nil)
            refine wp_append_sl byteK elemByte _ _ 36 rfl Tryz.underlying36 rfl (ho5.below ?b115) rfl (G := fun k => wr.heap.size ≤ k) (ys := [UInt8.ofNat kd.toNat]) ?s115 flatF flatF ?l115 ?l215 ?l315 ?_
            case b115 => (repeat (first | assumption | exact Below.refl _ _ | refine bel_drew ?_ | refine bel_alloc ?_ _))
            case s115 => (repeat (first | assumption | (refine oneB _ _ _ _ k0' k1' ?_ ?_ <;> (first | omega | (simp; done) | (simp; omega))) | (refine strB _ _ _ _ _ _ _ (hcap _ _ x3).1 (hcap _ _ x3).2 ?_ ?_ <;> (first | omega | (simp; done) | (simp; omega))) | refine SL.drew ?_ | refine SL.al ?_ _ | refine hk5 ?_ | refine SL.below ?_ hb2))
            case l115 => (unfold maxLen; simp only [List.length_append, List.length_singleton]; omega)
            case l215 => (simp only [List.length_append, List.length_singleton]; omega)
            case l315 => (have := hbw5.size; simp; try omega)
            rintro v6 w6 ⟨ho6, hg6, ha6⟩
            have hbw6 : Below w.heap.size w w6 := bel_grown (bel_trans hbw5 (by repeat (first | assumption | exact Below.refl _ _ | refine bel_drew ?_ | refine bel_alloc ?_ _))) hg6 (fun k hk => (ho5.lt k hk).1)
            refine hK.out _ _ ?_ (fun hHeld => ?_)
            · exact ⟨cell_grown hg6 hn5 hHeld.1, cell_grown hg6 hn5 hHeld.2⟩
            clear hK K
            (try simp only [Act.put, List.setIfInBounds_toArray, List.set_cons_zero, List.set_cons_succ])
            refine wpAnyH_take1 11 (v := ?v16) rfl (by kernel_rfl) (by kernel_rfl) (by kernel_rfl) (fun _ _ _ h => h) (by rfl) (fun w hSw => ?hy16) (by assumption) ?_
            case hy16 => ((try dsimp only at hSw); go_simp; (try with_reducible rfl))
            simp only [Act.put, List.setIfInBounds_toArray, List.set_cons_zero, List.set_cons_succ]
            refine wpAnyH_done (by kernel_rfl) ?_ _
            refine NoPanic.normal ?_
            go_wp2
            go_roundw
            case rel => exact ⟨k + 1, by omega, by go_num, by rw [HB.out]; exact ho6, hbw6⟩
            case measure => simp [intOf]; omega
        · skip
          go_simp
          refine hK.out _ _ ?_ (fun hHeld => ?_)
          · exact ⟨cell_al hHeld.1 _, cell_al hHeld.2 _⟩
          clear hK K
          (try simp only [Act.put, List.setIfInBounds_toArray, List.set_cons_zero, List.set_cons_succ])
          refine wpAnyH_ready (rs := [4]) (by kernel_rfl) (by simp) ?_
          refine AllReadyH.cons1 rfl (by rfl) (fun K hK => ?_) (AllReadyH.nil)
          go_simp
          refine (WB.out _ _ _ ?hs18).mono ?_
          case hs18 => (repeat (first | assumption | (refine oneB _ _ _ _ k0' k1' ?_ ?_ <;> (first | omega | (simp; done) | (simp; omega))) | (refine strB _ _ _ _ _ _ _ (hcap _ _ x3).1 (hcap _ _ x3).2 ?_ ?_ <;> (first | omega | (simp; done) | (simp; omega))) | refine SL.drew ?_ | refine SL.al ?_ _ | refine hk5 ?_ | refine SL.below ?_ hb2))
          rintro e w2 ⟨⟨v2', rfl, ho2'⟩, hb2⟩
          obtain ⟨A2, c2, rfl, _, _⟩ := ho2'.sl.form
          have hbc : Below wr.heap.size wr w2 := Below.trans (by repeat (first | assumption | exact Below.refl _ _ | refine bel_drew ?_ | refine bel_alloc ?_ _)) (hb2.mono (by simp; try omega))
          have hs2 : SL byteK w2 (fun k => wr.heap.size ≤ k) _ _ := ho2'.above (by simp; try omega) (fun _ h => h.elim)
          have hz2 : wr.heap.size < w2.heap.size := by have := hb2.size; simp at this; omega
          refine hK.out _ _ ?_ (fun hHeld => ?_)
          · exact ⟨cell_by hb2 hHeld.1, cell_by hb2 hHeld.2⟩
          clear hK K
          (try simp only [Act.put, List.setIfInBounds_toArray, List.set_cons_zero, List.set_cons_succ])
          refine wpAnyH_ready (rs := [5]) (by kernel_rfl) (by simp) ?_
          refine AllReadyH.cons1 rfl (by rfl) (fun K hK => ?_) (AllReadyH.nil)
          refine wp_append_sl byteK elemByte _ _ 36 rfl Tryz.underlying36 rfl (hO.below ?b119) rfl (G := fun k => wr.heap.size ≤ k) (ys := wireBytes (strBytes nm)) ?s119 flatF flatF ?l119 ?l219 ?l319 ?_
          case b119 => (repeat (first | assumption | exact Below.refl _ _ | refine bel_drew ?_ | refine bel_alloc ?_ _))
          case s119 => (repeat (first | assumption | (refine oneB _ _ _ _ k0' k1' ?_ ?_ <;> (first | omega | (simp; done) | (simp; omega))) | (refine strB _ _ _ _ _ _ _ (hcap _ _ x3).1 (hcap _ _ x3).2 ?_ ?_ <;> (first | omega | (simp; done) | (simp; omega))) | refine SL.drew ?_ | refine SL.al ?_ _ | refine hk5 ?_ | refine SL.below ?_ hb2))
          case l119 => (unfold maxLen; omega)
          case l219 => omega
          case l319 => (have := hbr.size; have := hbc.size; simp; try omega)
          rintro v5 w5 ⟨ho5, hg5, ha5⟩
          have hk5 := @keepRow _ _ wr.heap.size _ hg5 (fun k hk => (hO.lt k hk).2)
          have hbw5 : Below w.heap.size w w5 := bel_grown (bel_trans hbr (by repeat (first | assumption | exact Below.refl _ _ | refine bel_drew ?_ | refine bel_alloc ?_ _))) hg5 (fun k hk => (hO.lt k hk).1)
          have hz5 : wr.heap.size < w5.heap.size := by have := hg5.size; (try simp at this); omega
          have hn5 : v5.ownBlock ≠ some wr.heap.size := row_ne ha5 (fun k hk => by have := (hO.lt k hk).2; omega) (by first | (simp; done) | (simp; omega) | omega)
          refine hK.out _ _ ?_ (fun hHeld => ?_)
          · exact ⟨cell_grown hg5 (fun e => by have := (hO.lt _ e).2; omega) hHeld.1, cell_grown hg5 (fun e => by have := (hO.lt _ e).2; omega) hHeld.2⟩
          clear hK K
          (try simp only [Act.put, List.setIfInBounds_toArray, List.set_cons_zero, List.set_cons_succ])
          refine wpAnyH_ready (rs := [10]) (by kernel_rfl) (by simp) ?_
          refine AllReadyH.cons1 rfl (by rfl) (fun K hK => ?_) (AllReadyH.nil)
          refine wp_append_sl byteK elemByte _ _ 36 rfl Tryz.underlying36 rfl (ho5.below ?b120) rfl (G := fun k => wr.heap.size ≤ k) (ys := [UInt8.ofNat kd.toNat]) ?s120 flatF flatF ?l120 ?l220 ?l320 ?_
          case b120 => (repeat (first | assumption | exact Below.refl _ _ | refine bel_drew ?_ | refine bel_alloc ?_ _))
          case s120 => (repeat (first | assumption | (refine oneB _ _ _ _ k0' k1' ?_ ?_ <;> (first | omega | (simp; done) | (simp; omega))) | (refine strB _ _ _ _ _ _ _ (hcap _ _ x3).1 (hcap _ _ x3).2 ?_ ?_ <;> (first | omega | (simp; done) | (simp; omega))) | refine SL.drew ?_ | refine SL.al ?_ _ | refine hk5 ?_ | refine SL.below ?_ hb2))
          case l120 => (unfold maxLen; simp only [List.length_append, List.length_singleton]; omega)
          case l220 => (simp only [List.length_append, List.length_singleton]; omega)
          case l320 => (have := hbw5.size; simp; try omega)
          rintro v6 w6 ⟨ho6, hg6, ha6⟩
          have hbw6 : Below w.heap.size w w6 := bel_grown (bel_trans hbw5 (by repeat (first | assumption | exact Below.refl _ _ | refine bel_drew ?_ | refine bel_alloc ?_ _))) hg6 (fun k hk => (ho5.lt k hk).1)
          refine hK.out _ _ ?_ (fun hHeld => ?_)
          · exact ⟨cell_grown hg6 hn5 hHeld.1, cell_grown hg6 hn5 hHeld.2⟩
          clear hK K
          (try simp only [Act.put, List.setIfInBounds_toArray, List.set_cons_zero, List.set_cons_succ])
          refine wpAnyH_take1 11 (v := ?v21) rfl (by kernel_rfl) (by kernel_rfl) (by kernel_rfl) (fun _ _ _ h => h) (by rfl) (fun w hSw => ?hy21) (by assumption) ?_
          case hy21 => ((try dsimp only at hSw); go_simp; (try with_reducible rfl))
          simp only [Act.put, List.setIfInBounds_toArray, List.set_cons_zero, List.set_cons_succ]
          refine wpAnyH_done (by kernel_rfl) ?_ _
          refine NoPanic.normal ?_
          go_wp2
          go_roundw
          case rel => exact ⟨k + 1, by omega, by go_num, by rw [HB.out]; exact ho6, hbw6⟩
          case measure => simp [intOf]; omega
      · skip
        go_simp
        refine hK.out _ _ ?_ (fun hHeld => ?_)
        · exact ⟨cell_al hHeld.1 _, cell_al hHeld.2 _⟩
        clear hK K
        (try simp only [Act.put, List.setIfInBounds_toArray, List.set_cons_zero, List.set_cons_succ])
        refine wpAnyH_ready (rs := [3]) (by kernel_rfl) (by simp) ?_
        refine AllReadyH.cons1 rfl (by rfl) (fun K hK => ?_) (AllReadyH.nil)
        go_simp
        refine hK.out _ _ ?_ (fun hHeld => ?_)
        · exact ⟨cell_al hHeld.1 _, cell_al hHeld.2 _⟩
        clear hK K
        (try simp only [Act.put, List.setIfInBounds_toArray, List.set_cons_zero, List.set_cons_succ])
        refine wpAnyH_ready (rs := [4]) (by kernel_rfl) (by simp) ?_
        refine AllReadyH.cons1 rfl (by rfl) (fun K hK => ?_) (AllReadyH.nil)
        go_simp
        refine (WB.out _ _ _ ?hs24).mono ?_
        case hs24 => (repeat (first | assumption | (refine oneB _ _ _ _ k0' k1' ?_ ?_ <;> (first | omega | (simp; done) | (simp; omega))) | (refine strB _ _ _ _ _ _ _ (hcap _ _ x3).1 (hcap _ _ x3).2 ?_ ?_ <;> (first | omega | (simp; done) | (simp; omega))) | refine SL.drew ?_ | refine SL.al ?_ _ | refine hk5 ?_ | refine SL.below ?_ hb2))
        rintro e w2 ⟨⟨v2', rfl, ho2'⟩, hb2⟩
        obtain ⟨A2, c2, rfl, _, _⟩ := ho2'.sl.form
        have hbc : Below wr.heap.size wr w2 := Below.trans (by repeat (first | assumption | exact Below.refl _ _ | refine bel_drew ?_ | refine bel_alloc ?_ _)) (hb2.mono (by simp; try omega))
        have hs2 : SL byteK w2 (fun k => wr.heap.size ≤ k) _ _ := ho2'.above (by simp; try omega) (fun _ h => h.elim)
        have hz2 : wr.heap.size < w2.heap.size := by have := hb2.size; simp at this; omega
        refine hK.out _ _ ?_ (fun hHeld => ?_)
        · exact ⟨cell_by hb2 hHeld.1, cell_by hb2 hHeld.2⟩
        clear hK K
        (try simp only [Act.put, List.setIfInBounds_toArray, List.set_cons_zero, List.set_cons_succ])
        refine wpAnyH_ready (rs := [5]) (by kernel_rfl) (by simp) ?_
        refine AllReadyH.cons1 rfl (by rfl) (fun K hK => ?_) (AllReadyH.nil)
        refine wp_append_sl byteK elemByte _ _ 36 rfl Tryz.underlying36 rfl (hO.below ?b125) rfl (G := fun k => wr.heap.size ≤ k) (ys := wireBytes (strBytes nm)) ?s125 flatF flatF ?l125 ?l225 ?l325 ?_
        case b125 => (repeat (first | assumption | exact Below.refl _ _ | refine bel_drew ?_ | refine bel_alloc ?_ _))
        case s125 => (repeat (first | assumption | (refine oneB _ _ _ _ k0' k1' ?_ ?_ <;> (first | omega | (simp; done) | (simp; omega))) | (refine strB _ _ _ _ _ _ _ (hcap _ _ x3).1 (hcap _ _ x3).2 ?_ ?_ <;> (first | omega | (simp; done) | (simp; omega))) | refine SL.drew ?_ | refine SL.al ?_ _ | refine hk5 ?_ | refine SL.below ?_ hb2))
        case l125 => (unfold maxLen; omega)
        case l225 => omega
        case l325 => (have := hbr.size; have := hbc.size; simp; try omega)
        rintro v5 w5 ⟨ho5, hg5, ha5⟩
        have hk5 := @keepRow _ _ wr.heap.size _ hg5 (fun k hk => (hO.lt k hk).2)
        have hbw5 : Below w.heap.size w w5 := bel_grown (bel_trans hbr (by repeat (first | assumption | exact Below.refl _ _ | refine bel_drew ?_ | refine bel_alloc ?_ _))) hg5 (fun k hk => (hO.lt k hk).1)
        have hz5 : wr.heap.size < w5.heap.size := by have := hg5.size; (try simp at this); omega
        have hn5 : v5.ownBlock ≠ some wr.heap.size := row_ne ha5 (fun k hk => by have := (hO.lt k hk).2; omega) (by first | (simp; done) | (simp; omega) | omega)
        refine hK.out _ _ ?_ (fun hHeld => ?_)
        · exact ⟨cell_grown hg5 (fun e => by have := (hO.lt _ e).2; omega) hHeld.1, cell_grown hg5 (fun e => by have := (hO.lt _ e).2; omega) hHeld.2⟩
        clear hK K
        (try simp only [Act.put, List.setIfInBounds_toArray, List.set_cons_zero, List.set_cons_succ])
        refine wpAnyH_ready (rs := [10]) (by kernel_rfl) (by simp) ?_
        refine AllReadyH.cons1 rfl (by rfl) (fun K hK => ?_) (AllReadyH.nil)
        refine wp_append_sl byteK elemByte _ _ 36 rfl Tryz.underlying36 rfl (ho5.below ?b126) rfl (G := fun k => wr.heap.size ≤ k) (ys := [UInt8.ofNat kd.toNat]) ?s126 flatF flatF ?l126 ?l226 ?l326 ?_
        case b126 => (repeat (first | assumption | exact Below.refl _ _ | refine bel_drew ?_ | refine bel_alloc ?_ _))
        case s126 => (repeat (first | assumption | (refine oneB _ _ _ _ k0' k1' ?_ ?_ <;> (first | omega | (simp; done) | (simp; omega))) | (refine strB _ _ _ _ _ _ _ (hcap _ _ x3).1 (hcap _ _ x3).2 ?_ ?_ <;> (first | omega | (simp; done) | (simp; omega))) | refine SL.drew ?_ | refine SL.al ?_ _ | refine hk5 ?_ | refine SL.below ?_ hb2))
        case l126 => (unfold maxLen; simp only [List.length_append, List.length_singleton]; omega)
        case l226 => (simp only [List.length_append, List.length_singleton]; omega)
        case l326 => (have := hbw5.size; simp; try omega)
        rintro v6 w6 ⟨ho6, hg6, ha6⟩
        have hbw6 : Below w.heap.size w w6 := bel_grown (bel_trans hbw5 (by repeat (first | assumption | exact Below.refl _ _ | refine bel_drew ?_ | refine bel_alloc ?_ _))) hg6 (fun k hk => (ho5.lt k hk).1)
        refine hK.out _ _ ?_ (fun hHeld => ?_)
        · exact ⟨cell_grown hg6 hn5 hHeld.1, cell_grown hg6 hn5 hHeld.2⟩
        clear hK K
        (try simp only [Act.put, List.setIfInBounds_toArray, List.set_cons_zero, List.set_cons_succ])
        refine wpAnyH_take1 11 (v := ?v27) rfl (by kernel_rfl) (by kernel_rfl) (by kernel_rfl) (fun _ _ _ h => h) (by rfl) (fun w hSw => ?hy27) (by assumption) ?_
        case hy27 => ((try dsimp only at hSw); go_simp; (try with_reducible rfl))
        simp only [Act.put, List.setIfInBounds_toArray, List.set_cons_zero, List.set_cons_succ]
        refine wpAnyH_done (by kernel_rfl) ?_ _
        refine NoPanic.normal ?_
        go_wp2
        go_roundw
        case rel => exact ⟨k + 1, by omega, by go_num, by rw [HB.out]; exact ho6, hbw6⟩
        case measure => simp [intOf]; omega
      -- END
    · have hk' : k = s.length := by omega
      have HO := Lib.hid hO
      have HK := Lib.hid hk'
      clear hO hk'
      go_wp2
      refine bodyPost_ret (results_tmp2 rfl _ _ _) rfl ⟨⟨_, rfl, ?_⟩, hbr⟩
      have h1 := HO.out
      rw [HK.out, List.take_length] at h1
      exact h1
theorem schemaWrite_no (s : List Col) (v : Value) (w : World) (F : Nat → Prop) (hG : Glob w) (hs : SL colK w F v s) (h0 : schemaCheck s ≠ 0) :
    Calls Tryz.prog 67 #[v] w fun e w' => e = .returned (.tuple #[.slice none 0 0, .int .i64 (schemaCheck s)]) ∧ Below w.heap.size w w' := by
  obtain ⟨A, c, rfl, _, _⟩ := hs.form
  have SC := Lib.hid (schemaCheck_calls s _ w F hG hs)
  obtain ⟨x, hx⟩ : ∃ x, schemaCheck s = x := ⟨_, rfl⟩
  rw [hx] at SC h0 ⊢
  have g0 := bne_true h0
  clear hx h0
  go_enter Tryz.func67, Tryz.ntmps67
  go_wp2_with (go_at_call 69; refine SC.out.mono ?_; rintro e w1 ⟨rfl, hb1⟩)
  exact bodyPost_ret (results_tmp2 rfl _ _ _) rfl ⟨rfl, hb1⟩
theorem schemaWrite_calls (s : List Col) (v : Value) (w : World) (F : Nat → Prop) (hG : Glob w) (hs : SL colK w F v s) :
    Calls Tryz.prog 67 #[v] w fun e w' => (∃ vo, e = .returned (.tuple #[vo, .int .i64 (schemaCheck s)]) ∧ Own byteK 5 w' w.heap.size (fun _ => False) vo (if schemaCheck s = 0 then schemaBytes s else [])) ∧ Below w.heap.size w w' := by
  by_cases h0 : schemaCheck s = 0
  · rw [if_pos h0, h0]
    exact schemaWrite_yes s v w F hG hs h0
  · rw [if_neg h0]
    exact (schemaWrite_no s v w F hG hs h0).mono fun e w' ⟨he, hb⟩ => ⟨⟨_, he, Own.nil _ _ _ _ _⟩, hb⟩
end Go.Proofs.YtlhdndnohmikeaaGreatDoor
