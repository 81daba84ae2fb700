/-
  Walks: numbers and bytes on the wire, read.
  Walks: sums taken away, a frame read.
  Walks: a reader's calls, where nothing is wrong.
-/
import Derived.Test.YtlhdndnohmikeaaGreatDoorMW26
import Derived.Test.YtlhdndnohmikeaaGreatDoorK
import Derived.Laws.Bits64
set_option linter.unusedVariables false
set_option linter.unusedSimpArgs false
namespace Go.Proofs.YtlhdndnohmikeaaGreatDoor
open Go.RowKit

theorem bitLenAux_hi : ∀ (f x : Nat), x < 2 ^ f → x < 2 ^ Lib.bitLenAux f x
  | 0, x, h => by simpa [Lib.bitLenAux] using h
  | f + 1, x, h => by
    simp only [Lib.bitLenAux]
    split
    · rename_i h0; simp [h0]
    · have := bitLenAux_hi f (x / 2) (by rw [Nat.pow_succ] at h; omega)
      rw [Nat.add_comm, Nat.pow_succ]
      omega
theorem bitLenAux_lo : ∀ (f x : Nat), x < 2 ^ f → 0 < x → 2 ^ Lib.bitLenAux f x ≤ 2 * x
  | 0, x, h, h0 => by simp at h; omega
  | f + 1, x, h, h0 => by
    simp only [Lib.bitLenAux]
    rw [if_neg (by omega)]
    by_cases h1 : 0 < x / 2
    · have := bitLenAux_lo f (x / 2) (by rw [Nat.pow_succ] at h; omega) h1
      rw [Nat.add_comm, Nat.pow_succ]
      omega
    · have e : x / 2 = 0 := by omega
      rw [e]
      have : Lib.bitLenAux f 0 = 0 := by cases f <;> simp [Lib.bitLenAux]
      rw [this]
      simp; omega
theorem uSize_hi {n : Nat} (h : n < 2 ^ 64) : n < 2 ^ (7 * uSize (n : Int)) := by
  have h1 := bitLenAux_hi 64 n h
  have h2 : Lib.bitLenAux 64 n ≤ 7 * uSize (n : Int) := by
    unfold uSize
    rw [Int.toNat_natCast]
    show Lib.bitLen n ≤ _
    omega
  exact Nat.lt_of_lt_of_le h1 (Nat.pow_le_pow_right (by omega) h2)
theorem uSize_lo {n : Nat} (h : n < 2 ^ 64) (h1 : 1 < uSize (n : Int)) : 2 ^ (7 * (uSize (n : Int) - 1)) ≤ n := by
  unfold uSize at h1 ⊢
  rw [Int.toNat_natCast] at h1 ⊢
  have hb : 8 ≤ Lib.bitLen n := by omega
  have h0 : 0 < n := by
    refine Nat.pos_of_ne_zero fun e => ?_
    subst e
    simp [Lib.bitLen, Lib.bitLenAux] at hb
  have h2 := bitLenAux_lo 64 n h h0
  have h3 : 7 * ((max 1 (Lib.bitLen n) + 6) / 7 - 1) + 1 ≤ Lib.bitLen n := by omega
  have h4 : 2 ^ (7 * ((max 1 (Lib.bitLen n) + 6) / 7 - 1) + 1) ≤ 2 ^ Lib.bitLenAux 64 n := Nat.pow_le_pow_right (by omega) h3
  rw [Nat.pow_succ] at h4
  omega
theorem bits_or_nat (a b : Nat) (ha : a < 18446744073709551616) (hb : b < 18446744073709551616) : bits .or .u64 (a : Int) (b : Int) = ((a ||| b : Nat) : Int) := by
  have hx : a ||| b < 2 ^ 64 := Nat.or_lt_two_pow (by omega) (by omega)
  have h1 : (BitVec.ofInt 64 (a : Int)).toNat = a := by
    rw [BitVec.toNat_ofInt]; omega
  have h2 : (BitVec.ofInt 64 (b : Int)).toNat = b := by
    rw [BitVec.toNat_ofInt]; omega
  have h3 : (BitVec.ofInt 64 (a : Int) ||| BitVec.ofInt 64 (b : Int)).toNat = a ||| b := by rw [BitVec.toNat_or, h1, h2]
  unfold bits
  show IntKind.u64.wrap (((BitVec.ofInt 64 (a : Int) ||| BitVec.ofInt 64 (b : Int)).toNat : Nat) : Int) = _
  rw [h3, wrapU]
  omega
theorem orAdd (a c k : Nat) (ha : a < 2 ^ k) (h : a + c * 2 ^ k < 2 ^ 64) : bits .or .u64 (a : Int) ((c * 2 ^ k : Nat) : Int) = ((a + c * 2 ^ k : Nat) : Int) := by
  have h1 : c * 2 ^ k < 2 ^ 64 := by omega
  rw [bits_or_nat a (c * 2 ^ k) (by omega) (by omega)]
  congr 1
  rw [Nat.or_comm, Nat.mul_comm, ← Nat.two_pow_add_eq_or_of_lt ha, Nat.add_comm]
theorem mod_step (x k : Nat) : x % 2 ^ (7 * (k + 1)) = x % 2 ^ (7 * k) + x / 2 ^ (7 * k) % 128 * 2 ^ (7 * k) := by
  rw [show 7 * (k + 1) = 7 * k + 7 by omega, Nat.pow_add, Nat.mod_mul, Nat.mul_comm (2 ^ (7 * k))]
/-- What a byte's seven bits come to at its place. -/
theorem partVal (c k x : Nat) (hc : c < 128) (h : c * 2 ^ (7 * k) < 2 ^ 64) (b : Int) (hb : b = c ∨ b = c + 128) :
    IntKind.u64.wrap (IntKind.u64.wrap (bits .andNot .u8 b 128) * 2 ^ (7 * k)) = ((c * 2 ^ (7 * k) : Nat) : Int) := by
  have h1 : bits .andNot .u8 b 128 = (c : Int) := by
    rw [andNot128 b (by omega) (by omega)]
    omega
  rw [h1, wrapU, wrapU, show (c : Int) % 18446744073709551616 = c by omega]
  have h2 : ((c : Int) * 2 ^ (7 * k)) = ((c * 2 ^ (7 * k) : Nat) : Int) := by rw [Int.natCast_mul, Int.natCast_pow]; rfl
  rw [h2]
  omega
theorem getStep (x k : Nat) (hx : x < 2 ^ 64) :
    bits .or .u64 ((x : Int) % 2 ^ (7 * k)) (IntKind.u64.wrap (IntKind.u64.wrap (bits .andNot .u8 ((x : Int) / 2 ^ (7 * k) % 128 + 128) 128) * 2 ^ (7 * k))) = ((x % 2 ^ (7 * (k + 1)) : Nat) : Int) := by
  have hm := mod_step x k
  have hle := Nat.mod_le x (2 ^ (7 * (k + 1)))
  have e1 : ((x : Int) % 2 ^ (7 * k)) = ((x % 2 ^ (7 * k) : Nat) : Int) := by rw [Int.natCast_emod, Int.natCast_pow]; rfl
  have e2 : ((x : Int) / 2 ^ (7 * k) % 128) = ((x / 2 ^ (7 * k) % 128 : Nat) : Int) := by rw [Int.natCast_emod, Int.natCast_ediv, Int.natCast_pow]; rfl
  rw [e1, e2, partVal (x / 2 ^ (7 * k) % 128) k x (Nat.mod_lt _ (by omega)) (by omega) _ (.inr rfl), orAdd _ _ _ (Nat.mod_lt _ (Nat.pow_pos (by omega))) (by omega), ← hm]
set_option maxRecDepth 100000 in
set_option maxHeartbeats 1000000 in
theorem getUint_calls (x : Nat) (rest : List UInt8) (v : Value) (w : World) (F : Nat → Prop) (hx : x < 2 ^ 64) (hv : SL byteK w F v (wireUint (x : Int) ++ rest)) :
    Calls Tryz.prog 170 #[v] w fun e w' => e = .returned (.tuple #[.int .u64 (x : Int), .int .i64 (uSize (x : Int) : Nat), .int .i64 0]) ∧ w = w' := by
  have hl := hv.len_le
  unfold maxLen at hl
  obtain ⟨n0, n1⟩ := uSize_pos (x : Int)
  have hhi := uSize_hi hx
  have hlo := uSize_lo hx
  have hlen := wireUint_len (x : Int)
  obtain ⟨bs, hbs⟩ : ∃ bs, wireUint (x : Int) ++ rest = bs := ⟨_, rfl⟩
  obtain ⟨n, hn⟩ : ∃ n, uSize (x : Int) = n := ⟨_, rfl⟩
  have hbl : n ≤ bs.length := by rw [← hbs, List.length_append]; omega
  have hby : ∀ k, k < n → (((bs.getD k 0).toNat : Nat) : Int) = if k + 1 < n then (x : Int) / 2 ^ (7 * k) % 128 + 128 else (x : Int) / 2 ^ (7 * k) := fun k hk => by
    have e0 : bs.getD k 0 = (wireUint (x : Int)).getD k 0 := by rw [← hbs, List.getD_eq_getElem?_getD, List.getD_eq_getElem?_getD, List.getElem?_append_left (by omega)]
    rw [e0]
    unfold wireUint
    rw [hn]
    by_cases h : k + 1 < n
    · rw [if_pos h, ← uByte_val, List.getD_eq_getElem?_getD, List.getElem?_append_left (by simp; omega)]
      simp [show k < n - 1 by omega]
    · rw [if_neg h]
      have e : k = n - 1 := by omega
      subst e
      rw [List.getD_eq_getElem?_getD, List.getElem?_append_right (by simp)]
      simp only [List.length_map, List.length_range, Nat.sub_self, List.getElem?_cons_zero, Option.getD_some]
      rw [uLast_val]
      have h1 : x / 2 ^ (7 * (n - 1)) < 128 := Nat.div_lt_of_lt_mul (by show x < 2 ^ (7 * (n - 1)) * 2 ^ 7; rw [← Nat.pow_add]; rw [hn] at hhi; rwa [show 7 * n = 7 * (n - 1) + 7 by omega] at hhi)
      have h2 : (x : Int) / 2 ^ (7 * (n - 1)) = ((x / 2 ^ (7 * (n - 1)) : Nat) : Int) := by rw [Int.natCast_ediv, Int.natCast_pow]; rfl
      have h3 : ((x / 2 ^ (7 * (n - 1)) : Nat) : Int) < 128 := by omega
      have h4 : (0 : Int) ≤ ((x / 2 ^ (7 * (n - 1)) : Nat) : Int) := Int.natCast_nonneg _
      rw [← h2] at h3 h4
      exact Int.emod_eq_of_lt h4 h3
  rw [hbs] at hv hl
  rw [hn] at hhi hlo n0 n1 ⊢
  have HBY := Lib.hid hby
  have HX := Lib.hid (And.intro hx (And.intro hhi hlo))
  obtain ⟨A, c, rfl, _, _⟩ := hv.form
  clear hby hbs hn hlen hhi hlo hx
  obtain ⟨L, hL⟩ : ∃ L, min (bs.length : Int) 10 = (L : Nat) := ⟨min bs.length 10, by omega⟩
  have hLn : n ≤ L := by omega
  have hL10 : L ≤ 10 := by omega
  go_enter Tryz.func170, Tryz.ntmps170
  go_wp2
  clear hL
  go_loopw [5, 12] (fun va vi wr => ∃ k : Nat, k < n ∧ vi = .int .i64 k ∧ va = .int .u64 ((x % 2 ^ (7 * k) : Nat) : Int) ∧ w = wr) (fun _ vi _ => n - (intOf vi).toNat)
  case atStart => exact ⟨0, by omega, by simp, by simp [Nat.mod_one], by simp⟩
  case round =>
    obtain ⟨k, hk, rfl, rfl, rfl⟩ := hrel
    obtain ⟨ad, rfl, l1, y0⟩ := byte_at hv (i := k) (by omega)
    have kL : (k : Int) < L := by omega
    have kb : (k : Int) < bs.length := by omega
    have k10 : (k : Int) ≤ 9 := by omega
    have hb := HBY.out k hk
    by_cases hlast : k + 1 < n
    · rw [if_pos hlast] at hb
      rw [hb] at y0
      clear hb
      go_wp2
      go_roundw
      case rel => exact ⟨k + 1, hlast, by go_num, by rw [getStep x k HX.out.1], trivial⟩
      case measure => simp [intOf]; omega
    · rw [if_neg hlast] at hb
      rw [hb] at y0
      clear hb
      obtain ⟨hx, hhi, hlo⟩ := HX.out
      have hkn : k + 1 = n := by omega
      obtain ⟨c, hc⟩ : ∃ c, x / 2 ^ (7 * k) = c := ⟨_, rfl⟩
      have hc' : (x : Int) / 2 ^ (7 * k) = (c : Int) := by rw [← hc, Int.natCast_ediv, Int.natCast_pow]; rfl
      rw [hc'] at y0
      have hdm : x % 2 ^ (7 * k) + c * 2 ^ (7 * k) = x := by rw [← hc, Nat.mul_comm (x / 2 ^ (7 * k))]; exact Nat.mod_add_div x (2 ^ (7 * k))
      have hc128 : c < 128 := by
        rw [← hkn, show 7 * (k + 1) = 7 * k + 7 by omega, Nat.pow_add] at hhi
        rw [← hc]
        exact Nat.div_lt_of_lt_mul hhi
      have hcp : 0 < k → 0 < c := fun h => by
        have := hlo (by omega)
        rw [← hkn, Nat.add_sub_cancel] at this
        rw [← hc]
        exact Nat.div_pos this (Nat.pow_pos (by omega))
      have hP := partVal c k x hc128 (by omega) c (.inl rfl)
      obtain ⟨P, hPe⟩ : ∃ P, c * 2 ^ (7 * k) = P := ⟨_, rfl⟩
      have hPs : (P : Int) / 2 ^ (7 * k) = (c : Int) := by
        have : P / 2 ^ (7 * k) = c := by rw [← hPe]; exact Nat.mul_div_cancel _ (Nat.pow_pos (by omega))
        rw [← this, Int.natCast_ediv, Int.natCast_pow]; rfl
      have hOr : bits .or .u64 ((x % 2 ^ (7 * k) : Nat) : Int) (P : Int) = (x : Int) := by
        rw [← hPe, orAdd _ _ _ (Nat.mod_lt _ (Nat.pow_pos (by omega))) (by omega), hdm]
      rw [hPe] at hP
      have hu8 : IntKind.u64.wrap (c : Int) = c := by rw [wrapU]; omega
      have HK := Lib.hid hkn
      generalize hmm : x % 2 ^ (7 * k) = mm at *
      clear hx hhi hlo hc hc' hdm hPe hmm hkn HX
      have d128 : decide (128 ≤ (c : Int)) = false := decide_eq_false (by omega)
      rcases Nat.eq_zero_or_pos k with h0 | h0
      · have dk : decide (0 < k) = false := decide_eq_false (by omega)
        clear h0 hcp
        go_wp2
        all_goals exact bodyPost_ret (results_tmp3 rfl _ _ _) rfl ⟨by rw [← HK.out]; simp, rfl⟩
      · have dc : ((c : Int) == 0) = false := beq_false_ (by have := hcp h0; omega)
        clear h0 hcp
        go_wp2
        exact bodyPost_ret (results_tmp3 rfl _ _ _) rfl ⟨by rw [← HK.out]; simp, rfl⟩
theorem cut_bytes {bs p rest : List UInt8} {n : Nat} {u : List UInt8} (hu : u.length = n) (h : bs = u ++ p ++ rest) : (bs.drop n).take (n + p.length - n) = p := by
  subst h
  rw [List.append_assoc, ← hu, List.drop_left, show u.length + p.length - u.length = p.length by omega, List.take_left]
set_option maxRecDepth 100000 in
set_option maxHeartbeats 1000000 in
theorem getBytes_calls (p rest : List UInt8) (M : Nat) (v : Value) (w : World) (F : Nat → Prop) (hv : SL byteK w F v (wireBytes p ++ rest)) (hp : p.length ≤ M) (hM : M ≤ 1099511627776) :
    Calls Tryz.prog 199 #[v, .int .i64 (M : Int)] w fun e w' => (∃ vo, e = .returned (.tuple #[vo, .int .i64 ((wireBytes p).length : Nat), .int .i64 0]) ∧ Own byteK 5 w' w.heap.size (fun _ => False) vo p) ∧ Below w.heap.size w w' := by
  have hl := hv.len_le
  unfold maxLen at hl
  have hx : p.length < 2 ^ 64 := by omega
  obtain ⟨n0, n1⟩ := uSize_pos (p.length : Int)
  have hlen := wireUint_len (p.length : Int)
  have hsh : wireBytes p ++ rest = wireUint (p.length : Int) ++ (p ++ rest) := by unfold wireBytes; rw [List.append_assoc]
  have hwl : (wireBytes p).length = uSize (p.length : Int) + p.length := by unfold wireBytes; rw [List.length_append, hlen]
  have GU := Lib.hid (fun W (h : SL byteK W F v (wireBytes p ++ rest)) => getUint_calls p.length (p ++ rest) v W F hx (hsh ▸ h))
  obtain ⟨A, c, rfl, hc, hc2⟩ := hv.form
  have hcut := fun (h : uSize (p.length : Int) + p.length ≤ (wireBytes p ++ rest).length) => hv.cut (l := uSize (p.length : Int)) (h := uSize (p.length : Int) + p.length) (m := c) (by omega) h (by omega) (Nat.le_refl _)
  have hbl : uSize (p.length : Int) + p.length ≤ (wireBytes p ++ rest).length := by rw [List.length_append]; omega
  have hct := hcut hbl
  rw [cut_bytes hlen (by rw [hsh, List.append_assoc])] at hct
  have hsl := fun W => el_cut_lh elemByte Tryz.underlying36 A (wireBytes p ++ rest).length c (uSize (p.length : Int)) (uSize (p.length : Int) + p.length) (by omega) (by omega) W
  rw [hwl]
  have HCT := Lib.hid (show SL byteK w F (.slice (cutA A (uSize (p.length : Int)) c 1) (uSize (p.length : Int) + p.length - uSize (p.length : Int)) (c - uSize (p.length : Int))) p from hct)
  have HV := Lib.hid hv
  clear hcut hct hv hlen hwl hsh
  generalize uSize (p.length : Int) = n at *
  generalize (wireBytes p ++ rest).length = bl at *
  generalize hpl : p.length = pl at *
  rw [show n + pl - n = pl by omega] at hsl HCT
  simp only [Int.natCast_add] at hsl
  have HPL := Lib.hid hpl
  have d1 : decide ((M : Int) < 0) = false := decide_eq_false (by omega)
  have d2 : decide ((M : Int) < (pl : Int)) = false := decide_eq_false (by omega)
  have d2' : decide (M < pl) = false := decide_eq_false (by omega)
  have d3 : decide ((bl : Int) - n < (pl : Int)) = false := decide_eq_false (by omega)
  have ho : ∀ W : World, Own byteK 5 (W.alloc (.cells #[] 5)) W.heap.size (fun _ => False) (.slice (some ⟨W.heap.size, 0, none⟩) 0 0) [] := fun W => Own.empty _ _ _ _ _ (Nat.le_refl _) (by simp)
  have HO := Lib.hid ho
  clear hpl ho
  go_enter Tryz.func199, Tryz.ntmps199
  go_wp2_with (first
    | (go_at_call 170; refine (GU.out _ HV.out).mono ?_; rintro e w1 ⟨rfl, rfl⟩)
    | (at_builtin; refine wpList_append_sl byteK elemByte rfl _ _ 36 rfl Tryz.underlying36 rfl (HO.out w) rfl (HCT.out.al _) flatF flatF ?_ ?_ ?_ ?_; (unfold maxLen; rw [HPL.out]; simp; omega); (rw [HPL.out]; simp; omega); (simp); rintro v5 w5 ⟨ho5, hg5, ha5⟩))
  refine bodyPost_ret (results_tmp3 rfl _ _ _) rfl ⟨⟨v5, by simp, by have := ho5; rwa [List.nil_append] at this⟩, bel_grown (bel_alloc (Below.refl _ _) _) hg5 (fun k hk => by injection hk with hk; exact Nat.le_of_eq hk)⟩
end Go.Proofs.YtlhdndnohmikeaaGreatDoor

set_option linter.unusedVariables false
set_option linter.unusedSimpArgs false
namespace Go.Proofs.YtlhdndnohmikeaaGreatDoor
open Go.RowKit

set_option maxRecDepth 100000 in
set_option maxHeartbeats 1000000 in
theorem crcOpen_calls (bs : List UInt8) (v : Value) (w : World) (F : Nat → Prop) (hv : SL byteK w F v (crcSeal bs)) (hn : bs.length ≤ 1099511627776) :
    Calls Tryz.prog 85 #[v] w fun e w' => (∃ vo, e = .returned (.tuple #[vo, .bool true]) ∧ Own byteK 5 w' w.heap.size (fun _ => False) vo bs) ∧ Below w.heap.size w w' := by
  have hcl : (crcSeal bs).length = bs.length + 4 := by unfold crcSeal; rw [List.length_append]; simp [crcPut]
  obtain ⟨A, c, rfl, hc, hc2⟩ := hv.form
  rw [hcl] at hc
  obtain ⟨s, hs⟩ : ∃ s, crcSum bs = s := ⟨_, rfl⟩
  have hsu := crcSum_u32 bs
  rw [hs] at hsu
  obtain ⟨s0, s1⟩ := hsu
  have h1 := hv.cut (l := 0) (h := bs.length) (m := c) (by omega) (by omega) (by omega) (Nat.le_refl _)
  have h2 := hv.cut (l := bs.length) (h := bs.length + 4) (m := c) (by omega) (by omega) (by omega) (Nat.le_refl _)
  have e1 : ((crcSeal bs).drop 0).take (bs.length - 0) = bs := by unfold crcSeal; simp
  have e2 : ((crcSeal bs).drop bs.length).take (bs.length + 4 - bs.length) = crcPut s := by
    unfold crcSeal
    rw [List.drop_left, hs, List.take_of_length_le]
    simp [crcPut]
  rw [e1] at h1
  rw [e2] at h2
  have h1' : SL byteK w F (.slice (cutA A 0 c 1) bs.length c) bs := by rw [Nat.sub_zero, Nat.sub_zero] at h1; exact h1
  have h2' : SL byteK w F (.slice (cutA A bs.length c 1) 4 (c - bs.length)) (crcPut s) := by rw [show bs.length + 4 - bs.length = 4 by omega] at h2; exact h2
  rw [hcl]
  clear h1 h2 hv
  have hbn := Lib.hid hn
  generalize hnn : bs.length = n at *
  have HX1 := Lib.hid h1'
  have HX2 := Lib.hid h2'
  have hs1 := fun W => el_cut_h elemByte Tryz.underlying36 A (n + 4) c n (by omega) W
  have hs2 := fun W => el_cut_l elemByte Tryz.underlying36 A (n + 4) c n (by omega) W
  rw [show n + 4 - n = 4 by omega] at hs2
  have SM := Lib.hid (fun W (h : SL byteK W F (.slice (cutA A 0 c 1) n c) bs) => hs ▸ crcSum_calls bs _ W F h)
  have HN := Lib.hid hnn
  have ho : ∀ W : World, Own byteK 5 (W.alloc (.cells #[] 5)) W.heap.size (fun _ => False) (.slice (some ⟨W.heap.size, 0, none⟩) 0 0) [] := fun W => Own.empty _ _ _ _ _ (Nat.le_refl _) (by simp)
  have HO := Lib.hid ho
  have d0 : decide ((n : Int) + 4 - 4 < 0) = false := decide_eq_false (by omega)
  clear hcl h1' h2' e1 e2 hs hnn ho
  go_enter Tryz.func85, Tryz.ntmps85
  go_wp2_with (first
    | (go_at_call 114; refine (SM.out _ HX1.out).mono ?_; rintro e w1 ⟨rfl, hb1⟩))
  go_loopw [6, 7, 21] (fun v6 v7 vi wr => ∃ k : Nat, k ≤ 4 ∧ vi = .int .i64 k ∧ w1 = wr) (fun _ _ vi _ => 4 - (intOf vi).toNat)
  case atStart => exact ⟨0, by omega, by simp, rfl⟩
  case round =>
    obtain ⟨k, hk, rfl, rfl⟩ := hrel
    by_cases hlt : k < 4
    · obtain ⟨ad, had, l1, y0⟩ := byte_at (HX2.out.below hb1) (i := k) (by simp [crcPut]; exact hlt)
      have e : (((crcPut s).getD k 0).toNat : Int) = s / 2 ^ (8 * k) % 256 := by
        rw [← putByte_val]
        unfold crcPut
        simp [List.getD_eq_getElem?_getD, hlt]
      rw [e] at y0
      have k4 : (k : Int) < 4 := by omega
      rw [had] at *
      go_wp2
      go_roundw
      case rel => exact ⟨k + 1, by omega, by go_num, trivial⟩
      case measure => simp [intOf]; omega
    · have hk' : k = 4 := by omega
      clear hk'
      go_wp2_with (at_builtin; refine wpList_append_sl byteK elemByte rfl _ _ 36 rfl Tryz.underlying36 rfl (HO.out w1) rfl ((HX1.out.below hb1).al _) flatF flatF ?_ ?_ ?_ ?_; (unfold maxLen; rw [HN.out]; simp; omega); (rw [HN.out]; simp; omega); (simp); rintro v5 w5 ⟨ho5, hg5, ha5⟩)
      refine bodyPost_ret (results_tmp2 rfl _ _ _) rfl ⟨⟨v5, by simp, ?_⟩, bel_grown (bel_alloc hb1 _) hg5 (fun k hk => by injection hk with hk; exact Nat.le_trans hb1.size (Nat.le_of_eq hk))⟩
      have := ho5.lower hb1.size
      rwa [List.nil_append] at this
/-- A frame read. -/
theorem frame_shape (k : Int) (p : List UInt8) : frameBytes k p = UInt8.ofNat k.toNat :: (wireBytes p ++ crcPut (crcSum (UInt8.ofNat k.toNat :: wireBytes p))) := by
  unfold frameBytes crcSeal
  rfl
set_option maxRecDepth 100000 in
set_option maxHeartbeats 1000000 in
theorem frameNext_calls (k : Int) (p rest : List UInt8) (v : Value) (w : World) (F : Nat → Prop) (hk0 : 0 ≤ k) (hk2 : k ≤ 2) (hp : p.length ≤ 1048576) (hv : SL byteK w F v (frameBytes k p ++ rest)) :
    Calls Tryz.prog 163 #[v] w fun e w' => (∃ vo, e = .returned (.tuple #[.int .i64 k, vo, .int .i64 ((frameBytes k p).length : Nat), .int .i64 0]) ∧ Own byteK 5 w' w.heap.size (fun _ => False) vo p) ∧ Below w.heap.size w w' := by
  have hl := hv.len_le
  unfold maxLen at hl
  obtain ⟨A, c, rfl, hc, hc2⟩ := hv.form
  have hfs := frame_shape k p
  have hw10 := wireUint_len10 (p.length : Int)
  have hwl : (wireBytes p).length ≤ 1048586 := by unfold wireBytes; rw [List.length_append]; omega
  have hfl : (frameBytes k p).length = (wireBytes p).length + 5 := by rw [hfs]; simp [crcPut]
  have hbl : (frameBytes k p ++ rest).length = (wireBytes p).length + 5 + rest.length := by rw [List.length_append, hfl]
  obtain ⟨ad, rfl, l1, y0⟩ := byte_at hv (i := 0) (by omega)
  have e0 : (((frameBytes k p ++ rest).getD 0 0).toNat : Int) = k := by rw [hfs]; exact u8_of k (by omega) (by omega)
  rw [e0, add_zero_] at y0
  have h1 := hv.cut (l := 1) (h := (frameBytes k p ++ rest).length) (m := c) (by omega) (Nat.le_refl _) hc (Nat.le_refl _)
  have e1 : ((frameBytes k p ++ rest).drop 1).take ((frameBytes k p ++ rest).length - 1) = wireBytes p ++ (crcPut (crcSum (UInt8.ofNat k.toNat :: wireBytes p)) ++ rest) := by
    rw [List.take_of_length_le (by simp), hfs]
    simp
  rw [e1] at h1
  have h2 := hv.cut (l := 0) (h := (wireBytes p).length + 5) (m := (wireBytes p).length + 5) (by omega) (by omega) (Nat.le_refl _) (by omega)
  have e2 : ((frameBytes k p ++ rest).drop 0).take ((wireBytes p).length + 5 - 0) = crcSeal (UInt8.ofNat k.toNat :: wireBytes p) := by
    rw [List.drop_zero, Nat.sub_zero, ← hfl, List.take_left]; rfl
  rw [e2] at h2
  have hs1 : ∀ W, (Instr.slice 36 (.slice (some ad) (frameBytes k p ++ rest).length c) (some (.int .i64 1)) none none).run Tryz.prog W = .ok (.slice (cutA (some ad) 1 c 1) ((frameBytes k p ++ rest).length - 1) (c - 1)) W := fun W => el_cut_l elemByte Tryz.underlying36 (some ad) (frameBytes k p ++ rest).length c 1 (by omega) W
  have hs2 : ∀ W, (Instr.slice 36 (.slice (some ad) (frameBytes k p ++ rest).length c) none (some (.int .i64 (1 + ((wireBytes p).length : Int) + 4))) (some (.int .i64 (1 + ((wireBytes p).length : Int) + 4)))).run Tryz.prog W = .ok (.slice (cutA (some ad) 0 ((wireBytes p).length + 5) 1) ((wireBytes p).length + 5) ((wireBytes p).length + 5)) W := fun W => by
    have := el_cut_hm elemByte Tryz.underlying36 (some ad) (frameBytes k p ++ rest).length c ((wireBytes p).length + 5) ((wireBytes p).length + 5) (Nat.le_refl _) (by omega) W
    rwa [show (((wireBytes p).length + 5 : Nat) : Int) = 1 + ((wireBytes p).length : Int) + 4 by omega] at this
  have GB := Lib.hid (fun W v F (h : SL byteK W F v (wireBytes p ++ (crcPut (crcSum (UInt8.ofNat k.toNat :: wireBytes p)) ++ rest))) => getBytes_calls p _ 1048576 v W F h hp (by omega))
  have CO := Lib.hid (fun W v F (h : SL byteK W F v (crcSeal (UInt8.ofNat k.toNat :: wireBytes p))) => crcOpen_calls _ v W F h (by simp; omega))
  have H1 := Lib.hid (show SL byteK w F (.slice (cutA (some ad) 1 c 1) ((frameBytes k p ++ rest).length - 1) (c - 1)) _ from h1)
  have H2 := Lib.hid (show SL byteK w F (.slice (cutA (some ad) 0 ((wireBytes p).length + 5) 1) ((wireBytes p).length + 5) ((wireBytes p).length + 5)) _ by rw [Nat.sub_zero] at h2; exact h2)
  rw [hfl]
  generalize (frameBytes k p ++ rest).length = bl at *
  generalize hwn : (wireBytes p).length = wl at *
  clear h1 h2 e0 e1 e2 hv hfs hfl hwn hw10
  have b1 : 0 < bl := by omega
  have d0 : ((bl : Int) == 0) = false := beq_false_ (by omega)
  have d0' : (bl == 0) = false := by simp; omega
  have b2 : (0 : Int) < (bl : Int) := by omega
  have d1 : decide (2 < k) = false := decide_eq_false (by omega)
  have d2 : decide ((bl : Int) < 1 + (wl : Int) + 4) = false := decide_eq_false (by omega)
  clear hbl
  go_enter Tryz.func163, Tryz.ntmps163
  go_wp2_with (first
    | (go_at_call 199; refine (GB.out _ _ _ H1.out).mono ?_; rintro e w1 ⟨⟨v1, rfl, ho1⟩, hb1⟩; have y1 := cell_bya hb1 y0)
    | (go_at_call 85; refine (CO.out _ _ _ (H2.out.below hb1)).mono ?_; rintro e w2 ⟨⟨v2, rfl, ho2⟩, hb2⟩; have y2 := cell_bya hb2 y1))
  refine bodyPost_ret (v := .tuple #[.int .i64 k, v1, .int .i64 (1 + (wl : Int) + 4), .int .i64 0]) (by simp [results, Tryz.results163, go_sem]) rfl ⟨⟨v1, by rw [show ((wl + 5 : Nat) : Int) = 1 + (wl : Int) + 4 by omega], ho1.below hb2⟩, bel_trans hb1 hb2⟩
end Go.Proofs.YtlhdndnohmikeaaGreatDoor

set_option linter.unusedVariables false
set_option linter.unusedSimpArgs false
namespace Go.Proofs.YtlhdndnohmikeaaGreatDoor
open Go.RowKit

/-- A reader in block R, over bytes, at a place. -/
structure Rd (w : World) (R : Nat) (F : Nat → Prop) (bs : List UInt8) (n : Nat) : Prop where
  c0 : ∃ v, w.cell? ⟨R, 0, none⟩ = some v ∧ SL byteK w F v bs
  c1 : w.cell? ⟨R, 1, none⟩ = some (.int .i64 n)
  c2 : w.cell? ⟨R, 2, none⟩ = some (.bool true)
  fr : ∀ o, w.frozen? ⟨R, o, none⟩ = false
  out : ¬ F R
  le : n ≤ bs.length
theorem Rd.lt {w : World} {R : Nat} {F : Nat → Prop} {bs : List UInt8} {n : Nat} (h : Rd w R F bs n) : R < w.heap.size := World.block_lt_of_cell? w _ h.c1
theorem Rd.keep {w w' : World} {R : Nat} {F : Nat → Prop} {bs : List UInt8} {n : Nat} (h : Rd w R F bs n) (hk : Kept (fun j => F j ∨ j = R) w w') (hs : w.heap.size ≤ w'.heap.size) : Rd w' R F bs n := by
  have hlt := h.lt
  obtain ⟨⟨v, a0, h0⟩, a1, a2, hf, ho, hl⟩ := h
  exact ⟨⟨v, kept_cell hk (.inr rfl) a0, h0.keep (hk.wid fun _ h => .inl h) hs⟩, kept_cell hk (.inr rfl) a1, kept_cell hk (.inr rfl) a2, fun o => (World.frozen?_of_block (w := w) (a := ⟨R, o, none⟩) (hk R (.inr rfl) hlt)).trans (hf o), ho, hl⟩
theorem Rd.below {w w' : World} {R : Nat} {F : Nat → Prop} {bs : List UInt8} {n : Nat} (h : Rd w R F bs n) (hb : Below w.heap.size w w') : Rd w' R F bs n := h.keep (Kept.of_below hb) hb.size
/-- The place is moved on. -/
theorem Rd.move {w : World} {R : Nat} {F : Nat → Prop} {bs : List UInt8} {n m : Nat} (h : Rd w R F bs n) (hm : m ≤ bs.length) : Rd (w.setCell ⟨R, 1, none⟩ (.int .i64 m)) R F bs m := by
  obtain ⟨⟨v, a0, h0⟩, a1, a2, hf, ho, hl⟩ := h
  exact ⟨⟨v, cell_set_off a0 (by omega), h0.set _ ho⟩, cell_set_on a1, cell_set_off a2 (by omega), fun o => by rw [World.frozen?_setCell]; exact hf o, ho, hm⟩
theorem live_calls (R : Nat) (F : Nat → Prop) (bs : List UInt8) (n : Nat) (w : World) (h : Rd w R F bs n) :
    Calls Tryz.prog 167 #[.pointer (some ⟨R, 0, none⟩)] w fun e w' => e = .returned (.bool true) ∧ w = w' := by
  have c2 := h.c2
  have hnp : ∀ (a : Addr) (W : World), (binOp .neq 205 (.pointer (some a)) (.pointer none)).run Tryz.prog W = .ok (.bool true) W := fun a W => by simp [go_sem]
  clear h
  go_enter Tryz.func167, Tryz.ntmps167
  go_wp2
  go_ret
  exact ⟨rfl, rfl⟩
theorem must_calls (R : Nat) (F : Nat → Prop) (bs : List UInt8) (n : Nat) (x : Int) (w : World) (h : Rd w R F bs n) :
    Calls Tryz.prog 131 #[.pointer (some ⟨R, 0, none⟩), .bool true, .int .i64 x] w fun e w' => e = .returned (.tuple #[]) ∧ w = w' := by
  have LV := Lib.hid (live_calls R F bs n w h)
  clear h
  go_enter Tryz.func131, Tryz.ntmps131
  go_wp2_with (go_at_call 167; refine LV.out.mono ?_; rintro e w1 ⟨rfl, rfl⟩)
  go_end0
  exact ⟨rfl, rfl⟩
theorem rtake_calls (R : Nat) (F : Nat → Prop) (bs : List UInt8) (n m : Nat) (w : World) (h : Rd w R F bs n) (hm : n + m ≤ bs.length) (hl : bs.length ≤ 1099511627776) :
    Calls Tryz.prog 169 #[.pointer (some ⟨R, 0, none⟩), .int .i64 (m : Int), .int .i64 0] w fun e w' => e = .returned (.tuple #[]) ∧ w' = w.setCell ⟨R, 1, none⟩ (.int .i64 ((n : Int) + m)) := by
  have MU := Lib.hid (must_calls R F bs n 0 w h)
  have c1 := h.c1
  have f1 := h.fr
  have hm' : (n : Int) + m ≤ 1099511627776 := by omega
  clear h
  go_enter Tryz.func169, Tryz.ntmps169
  go_wp2_with (go_at_call 131; refine MU.out.mono ?_; rintro e w1 ⟨rfl, rfl⟩)
  go_end0
  exact ⟨rfl, rfl⟩
theorem left_calls (R : Nat) (F : Nat → Prop) (bs : List UInt8) (n : Nat) (w : World) (h : Rd w R F bs n) :
    Calls Tryz.prog 168 #[.pointer (some ⟨R, 0, none⟩)] w fun e w' => e = .returned (.int .i64 ((bs.length - n : Nat) : Int)) ∧ ∃ k, w' = w.drewN k := by
  have LV := Lib.hid (live_calls R F bs n w h)
  obtain ⟨⟨v, a0, h0⟩, a1, a2, hf, ho, hl⟩ := h
  have hle := h0.len_le
  unfold maxLen at hle
  obtain ⟨A, c, rfl, _, _⟩ := h0.form
  have hw : IntKind.i64.wrap ((bs.length : Int) - n) = (bs.length : Int) - n := IntWalk.i64_in _ (by omega)
  clear h0
  go_enter Tryz.func168, Tryz.ntmps168
  go_wp2_with (go_at_call 167; refine LV.out.mono ?_; rintro e w1 ⟨rfl, rfl⟩)
  go_quiet (fail)
  go_wp2
  go_ret
  exact ⟨ret_int (by omega), _, rfl⟩
theorem rd_drewN {w : World} {R : Nat} {F : Nat → Prop} {bs : List UInt8} {n : Nat} (h : Rd w R F bs n) (k : Nat) : Rd (w.drewN k) R F bs n := h.below (bel_drewN (Below.refl _ _) k)
/-- What a reading call leaves: the reader moved on, nothing else written. -/
def RdPost (R : Nat) (F : Nat → Prop) (bs : List UInt8) (m : Nat) (w w' : World) : Prop := Rd w' R F bs m ∧ w.grownBy w' (some R)
set_option maxRecDepth 100000 in
set_option maxHeartbeats 1000000 in
theorem rbyte_calls (R : Nat) (F : Nat → Prop) (bs : List UInt8) (n : Nat) (w : World) (h : Rd w R F bs n) (hn : n < bs.length) (hbl : bs.length ≤ 1099511627776) :
    Calls Tryz.prog 132 #[.pointer (some ⟨R, 0, none⟩)] w fun e w' => e = .returned (.int .u8 ((bs.getD n 0).toNat : Int)) ∧ RdPost R F bs (n + 1) w w' := by
  have LV := Lib.hid (live_calls R F bs n w h)
  have LE := Lib.hid (left_calls R F bs n w h)
  have MU := Lib.hid (fun k => must_calls R F bs n 5 _ (rd_drewN h k))
  have TK := Lib.hid (show ∀ W, Rd W R F bs n → Calls Tryz.prog 169 #[.pointer (some ⟨R, 0, none⟩), .int .i64 1, .int .i64 0] W fun e w' => e = .returned (.tuple #[]) ∧ w' = W.setCell ⟨R, 1, none⟩ (.int .i64 ((n : Int) + 1)) from fun W h => rtake_calls R F bs n 1 W h hn hbl)
  have HR := Lib.hid h
  obtain ⟨⟨v, a0, h0⟩, a1, a2, hf, ho, hl⟩ := h
  obtain ⟨A, c, rfl, _, _⟩ := h0.form
  obtain ⟨ad, rfl, l1, y0⟩ := byte_at h0 hn
  have hn' : (n : Int) < bs.length := by omega
  generalize hby : (bs.getD n 0).toNat = by' at *
  have d0 : decide ((0 : Int) < ((bs.length - n : Nat) : Int)) = true := decide_eq_true (by omega)
  have d1 : decide (0 < bs.length - n) = true := decide_eq_true (by omega)
  have d2 : decide (n < bs.length) = true := decide_eq_true hn
  clear h0 hby
  go_enter Tryz.func132, Tryz.ntmps132
  go_wp2_with (first
    | (go_at_call 167; refine LV.out.mono ?_; rintro e w1 ⟨rfl, rfl⟩)
    | (go_at_call 168; refine LE.out.mono ?_; rintro e w1 ⟨rfl, k1, rfl⟩)
    | (go_at_call 131; refine (MU.out _).mono ?_; rintro e w2 ⟨rfl, rfl⟩))
  go_quiet (fail)
  go_wp2_with (first
    | (go_at_call 169; refine (TK.out _ (rd_drewN HR.out _)).mono ?_; rintro e w2 ⟨rfl, rfl⟩))
  go_ret
  refine ⟨rfl, ?_, gset _ (gbel (bel_drewN (Below.refl _ _) _) R)⟩
  exact (rd_drewN HR.out _).move (m := n + 1) hn
set_option maxRecDepth 100000 in
set_option maxHeartbeats 1000000 in
theorem ruint_calls (R : Nat) (F : Nat → Prop) (bs : List UInt8) (n : Nat) (x M : Nat) (rest : List UInt8) (w : World) (h : Rd w R F bs n) (hx : x < 2 ^ 64) (hM : x ≤ M) (hM2 : M < 2 ^ 64) (hsp : bs.drop n = wireUint (x : Int) ++ rest) (hbl : bs.length ≤ 1099511627776) :
    Calls Tryz.prog 133 #[.pointer (some ⟨R, 0, none⟩), .int .u64 (M : Int)] w fun e w' => e = .returned (.int .u64 (x : Int)) ∧ RdPost R F bs (n + (wireUint (x : Int)).length) w w' := by
  have hlen := wireUint_len (x : Int)
  have hdl : bs.length - n = (wireUint (x : Int)).length + rest.length := by rw [← List.length_drop, hsp, List.length_append]
  obtain ⟨u0, u1⟩ := uSize_pos (x : Int)
  have hle := h.le
  have LV := Lib.hid (live_calls R F bs n w h)
  have TK := Lib.hid (fun W (h : Rd W R F bs n) => rtake_calls R F bs n (uSize (x : Int)) W h (by omega) hbl)
  have HR := Lib.hid h
  obtain ⟨⟨v, a0, h0⟩, a1, a2, hf, ho, hl⟩ := h
  obtain ⟨A, c, rfl, hc, hc2⟩ := h0.form
  have hct := h0.cut (l := n) (h := bs.length) (m := c) hle (Nat.le_refl _) hc (Nat.le_refl _)
  rw [List.take_of_length_le (by simp), hsp] at hct
  have GU := Lib.hid (fun k => turn_eq (getUint_calls x rest (.slice (cutA A n c 1) (bs.length - n) (c - n)) (w.drewN k) F hx (SL.drewN hct k)))
  have hsl := fun W => el_cut_l elemByte Tryz.underlying36 A bs.length c n hle W
  rw [hlen]
  have hle' : (n : Int) ≤ bs.length := by omega
  have d1 : decide ((M : Int) < (x : Int)) = false := decide_eq_false (by omega)
  have d2 : decide (M < x) = false := decide_eq_false (by omega)
  generalize uSize (x : Int) = un at *
  have hnu : n + un ≤ bs.length := by omega
  clear h0 hct hsp hdl hlen
  go_enter Tryz.func133, Tryz.ntmps133
  go_wp2_with (first
    | (go_at_call 167; refine LV.out.mono ?_; rintro e w1 ⟨rfl, rfl⟩))
  go_quiet ((go_at_call 170; exact Calls.quiet_of_same (GU.out _)))
  go_wp2_with (first
    | (go_at_call 169; refine (TK.out _ (rd_drewN HR.out _)).mono ?_; rintro e w2 ⟨rfl, rfl⟩))
  go_ret
  refine ⟨rfl, ?_, gset _ (gbel (bel_drewN (Below.refl _ _) _) R)⟩
  have := (rd_drewN HR.out nq).move (m := n + un) (by omega)
  simpa using this
set_option maxRecDepth 100000 in
set_option maxHeartbeats 1000000 in
theorem rbytes_calls (R : Nat) (F : Nat → Prop) (bs : List UInt8) (n M : Nat) (p rest : List UInt8) (w : World) (h : Rd w R F bs n) (hM : p.length ≤ M) (hM2 : M ≤ 1099511627776) (hsp : bs.drop n = wireBytes p ++ rest) (hbl : bs.length ≤ 1099511627776) :
    Calls Tryz.prog 201 #[.pointer (some ⟨R, 0, none⟩), .int .i64 (M : Int)] w fun e w' => (∃ vo, e = .returned vo ∧ Own byteK 5 w' w.heap.size (fun _ => False) vo p) ∧ RdPost R F bs (n + (wireBytes p).length) w w' := by
  have hdl : bs.length - n = (wireBytes p).length + rest.length := by rw [← List.length_drop, hsp, List.length_append]
  have hle := h.le
  have hRl := h.lt
  have LV := Lib.hid (live_calls R F bs n w h)
  have TK := Lib.hid (fun W (h : Rd W R F bs n) => rtake_calls R F bs n (wireBytes p).length W h (by omega) hbl)
  have HR := Lib.hid h
  obtain ⟨⟨v, a0, h0⟩, a1, a2, hf, ho, hl⟩ := h
  obtain ⟨A, c, rfl, hc, hc2⟩ := h0.form
  have hct := h0.cut (l := n) (h := bs.length) (m := c) hle (Nat.le_refl _) hc (Nat.le_refl _)
  rw [List.take_of_length_le (by simp), hsp] at hct
  have GB := Lib.hid (fun W (hb : Below w.heap.size w W) => getBytes_calls p rest M (.slice (cutA A n c 1) (bs.length - n) (c - n)) W F (hct.below hb) hM hM2)
  have hsl := fun W => el_cut_l elemByte Tryz.underlying36 A bs.length c n hle W
  have hle' : (n : Int) ≤ bs.length := by omega
  have hn0 : (0 : Int) ≤ n := by omega
  have hnu : n + (wireBytes p).length ≤ bs.length := by omega
  generalize (wireBytes p).length = un at *
  clear h0 hct hsp hdl
  go_enter Tryz.func201, Tryz.ntmps201
  go_wp2_with (first
    | (go_at_call 167; refine LV.out.mono ?_; rintro e w1 ⟨rfl, rfl⟩))
  go_region_held3 (fun w' => w'.cell? ⟨R, 0, none⟩ = some (.slice A bs.length c) ∧ w'.cell? ⟨R, 1, none⟩ = some (.int .i64 (n : Int)))
    (first
      | exact ⟨a0, a1⟩
      | exact ⟨cell_by hb2 a0, cell_by hb2 a1⟩)
    (first
      | (go_at_call 199; refine (GB.out _ (bel_drew (Below.refl _ _))).mono ?_; rintro e w2 ⟨⟨v2, rfl, ho2⟩, hb2⟩))
  have hb2' : Below w.heap.size w w2 := bel_trans (bel_drew (Below.refl _ _)) hb2
  have HR2 := Lib.hid (HR.out.below hb2')
  go_wp2_with (first
    | (go_at_call 169; refine (TK.out _ HR2.out).mono ?_; rintro e w3 ⟨rfl, rfl⟩))
  go_ret
  refine ⟨⟨v2, rfl, ?_⟩, ?_, gset _ (gbel hb2' R)⟩
  · exact ho2.keep (row := some R) (gset _ (gbel (Below.refl _ _) R)) fun k hk => by injection hk with hk; subst hk; exact ⟨fun e => by have := (ho2.lt _ e).1; have h2 : (w.drew).heap.size = w.heap.size := rfl; omega, fun h => h⟩
  · have := HR2.out.move (m := n + un) hnu
    simpa using this
end Go.Proofs.YtlhdndnohmikeaaGreatDoor
