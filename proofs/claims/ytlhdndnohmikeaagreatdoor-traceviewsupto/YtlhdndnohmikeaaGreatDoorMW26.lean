/-
  Walks: sums of bytes (crc).
  Walks: numbers and bytes on the wire, written.
  Walks: bytes on the wire, a frame, written.
-/
import Derived.Test.YtlhdndnohmikeaaGreatDoorK
import Derived.Test.YtlhdndnohmikeaaGreatDoorShelf
set_option linter.unusedVariables false
set_option linter.unusedSimpArgs false
namespace Go.Proofs.YtlhdndnohmikeaaGreatDoor
open Go.RowKit

theorem wrapU32 (x : Int) : IntKind.u32.wrap x = x % 4294967296 := by
  unfold IntKind.wrap
  simp [IntKind.bits, IntKind.signed]
theorem bits_u32 (op : BinOp) (x y : Int) : U32 (bits op .u32 x y) := by
  unfold bits
  simp only [wrapU32]
  constructor <;> omega
def crcRound (x : Int) : Int := bits .xor .u32 (x / 2) (bits .and .u32 2197175160 (-bits .and .u32 x 1 % 4294967296))
def iter (f : Int → Int) : Nat → Int → Int
  | 0, x => x
  | n + 1, x => f (iter f n x)
def crcStep (s c : Int) : Int := iter crcRound 8 (bits .xor .u32 s c)
theorem crcRound_u32 (x : Int) : U32 (crcRound x) := bits_u32 _ _ _
theorem iter_u32 (n : Nat) (x : Int) (hx : U32 x) : U32 (iter crcRound n x) := by
  cases n with
  | zero => exact hx
  | succ n => exact crcRound_u32 _
theorem crcStep_u32 (s c : Int) : U32 (crcStep s c) := iter_u32 _ _ (bits_u32 _ _ _)
theorem crcStep_calls (s c : Int) (w : World) (hs : U32 s) (hc : 0 ≤ c ∧ c ≤ 255) :
    Calls Tryz.prog 183 #[.int .u32 s, .int .u8 c] w fun e w' => e = .returned (.int .u32 (crcStep s c)) ∧ w = w' := by
  obtain ⟨s0, s1⟩ := hs
  obtain ⟨c0, c1⟩ := hc
  have h0 : Hid (U32 (bits .xor .u32 s c)) := bits_u32 _ _ _
  obtain ⟨y, hy⟩ : ∃ y, bits .xor .u32 s c = y := ⟨_, rfl⟩
  have HY : Hid (crcStep s c = iter crcRound 8 y) := by show _ = _; rw [← hy]; rfl
  rw [hy] at h0
  go_enter Tryz.func183, Tryz.ntmps183
  go_wp2
  go_loopw [0, 9] (fun vs vi wr => ∃ (k : Nat), k ≤ 8 ∧ vs = .int .u32 (iter crcRound k y) ∧ vi = .int .i64 k ∧ w = wr) (fun _ vi _ => 8 - (intOf vi).toNat)
  case atStart => exact ⟨0, by omega, by first | rfl | simp [iter] | (rw [hy]; rfl), by simp, by simp⟩
  case round =>
    obtain ⟨k, hk, rfl, rfl, rfl⟩ := hrel
    have hx := iter_u32 k y h0.out
    obtain ⟨x, hxe⟩ : ∃ x, iter crcRound k y = x := ⟨_, rfl⟩
    have HXE := Lib.hid hxe
    rw [hxe] at hx ⊢
    clear hxe hy
    obtain ⟨x0, x1⟩ := hx
    by_cases hlt : k < 8
    · go_wp2
      go_roundw
      case rel => exact ⟨k + 1, by omega, by show _ = Value.int .u32 (crcRound (iter crcRound k y)); rw [HXE.out]; rfl, by go_num, by simp⟩
      case measure => simp [intOf]; omega
    · have hk' : k = 8 := by omega
      have HK := Lib.hid hk'
      clear hk'
      go_wp2
      go_ret
      exact ⟨ret_int (by rw [HY.out, ← HXE.out, HK.out]), rfl⟩

theorem crcMore1_calls (b : Nat) (s c : Int) (w : World) (hb : w.cell? ⟨b, 0, none⟩ = some (.int .u32 s)) (hf : w.frozen? ⟨b, 0, none⟩ = false) (hs : U32 s) (hc : 0 ≤ c ∧ c ≤ 255) :
    Calls Tryz.prog 182 #[.int .u8 c, .pointer (some ⟨b, 0, none⟩)] w fun e w' => e = .returned (.tuple #[]) ∧ w' = w.setCell ⟨b, 0, none⟩ (.int .u32 (crcStep s c)) := by
  have HC := Lib.hid (crcStep_calls s c w hs hc)
  obtain ⟨x, hx⟩ : ∃ x, crcStep s c = x := ⟨_, rfl⟩
  have hC : Calls Tryz.prog 183 #[.int .u32 s, .int .u8 c] w fun e w' => e = .returned (.int .u32 x) ∧ w = w' := hx ▸ crcStep_calls s c w hs hc
  rw [hx]
  have HC := Lib.hid hC
  clear hC hx
  go_enter Tryz.func182, Tryz.ntmps182
  go_wp2_with (go_at_call 183; refine HC.out.mono ?_; rintro e w1 ⟨rfl, rfl⟩)
  go_end0
  exact ⟨rfl, rfl⟩

def crcFold (s : Int) (bs : List UInt8) : Int := bs.foldl (fun s c => crcStep s (c.toNat : Int)) s
def crcNot (s : Int) : Int := bits .xor .u32 IntKind.u32.max s
def crcMore (s : Int) (bs : List UInt8) : Int := crcNot (crcFold (crcNot s) bs)
def crcSum (bs : List UInt8) : Int := crcMore 0 bs
theorem crcSum_u32 (bs : List UInt8) : U32 (crcSum bs) := by unfold crcSum crcMore crcNot; exact bits_u32 _ _ _
theorem crcFold_u32 : ∀ (bs : List UInt8) (s : Int), U32 s → U32 (crcFold s bs)
  | [], s, h => h
  | b :: bs, s, h => crcFold_u32 bs _ (crcStep_u32 _ _)
theorem crcFold_snoc (s : Int) (bs : List UInt8) (c : UInt8) : crcFold s (bs ++ [c]) = crcStep (crcFold s bs) (c.toNat : Int) := by simp [crcFold]
set_option maxRecDepth 100000 in
theorem crcMore_calls (s : Int) (bs : List UInt8) (v : Value) (w : World) (F : Nat → Prop) (hs : U32 s) (hv : SL byteK w F v bs) :
    Calls Tryz.prog 151 #[.int .u32 s, v] w fun e w' => e = .returned (.int .u32 (crcMore s bs)) ∧ Below w.heap.size w w' := by
  have hl := hv.len_le
  unfold maxLen at hl
  obtain ⟨A, c, rfl, _, _⟩ := hv.form
  obtain ⟨s0, s1⟩ := hs
  obtain ⟨n, hn⟩ : ∃ n, bits .xor .u32 IntKind.u32.max s = n := ⟨_, rfl⟩
  have HN : Hid (crcNot s = n) := hn
  have hnu : Hid (U32 n) := hn ▸ bits_u32 _ _ _
  go_enter Tryz.func151, Tryz.ntmps151
  go_wp2
  have hb0 : Below w.heap.size w (w.alloc (.cells #[.int .u32 n] 75)) := bel_alloc (Below.refl _ _) _
  have hc0 := cell_new_l w (.int .u32 n) 75
  clear hn
  go_loopw [14] (fun vi wr => ∃ k : Nat, k ≤ bs.length ∧ vi = .int .i64 k ∧ Below w.heap.size w wr ∧ wr.cell? ⟨w.heap.size, 0, none⟩ = some (.int .u32 (crcFold n (bs.take k))) ∧ wr.frozen? ⟨w.heap.size, 0, none⟩ = false) (fun vi _ => bs.length - (intOf vi).toNat)
  case atStart => exact ⟨0, by omega, by simp, hb0, hc0.1, hc0.2⟩
  case round =>
    obtain ⟨k, hk, rfl, hbr, hc, hf⟩ := hrel
    have hu := crcFold_u32 (bs.take k) n hnu.out
    have hsn : ∀ h : k < bs.length, crcFold n (bs.take (k + 1)) = crcStep (crcFold n (bs.take k)) ((bs.getD k 0).toNat : Int) := fun h => by
      rw [List.take_succ_eq_append_getElem h, crcFold_snoc]; simp [List.getD_eq_getElem?_getD, List.getElem?_eq_getElem h]
    have HSN := Lib.hid hsn
    obtain ⟨x, hx⟩ : ∃ x, crcFold n (bs.take k) = x := ⟨_, rfl⟩
    have HX := Lib.hid hx
    rw [hx] at hc hu
    clear hx hsn
    by_cases hlt : k < bs.length
    · obtain ⟨ad, rfl, l1, y0⟩ := byte_at (hv.below hbr) hlt
      have k0 : (k : Int) < bs.length := by omega
      obtain ⟨b, hb⟩ : ∃ b : Nat, (bs.getD k 0).toNat = b := ⟨_, rfl⟩
      have hb255 : b ≤ 255 := by rw [← hb]; have := (bs.getD k 0).toNat_lt; omega
      have HB := Lib.hid hb
      rw [hb] at y0
      have HC := Lib.hid (crcMore1_calls w.heap.size x (b : Int) wr hc hf hu ⟨by omega, by omega⟩)
      have HCF := Lib.hid (And.intro hc hf)
      clear hb hu hc hf
      go_wp2_with (go_at_call 182; refine HC.out.mono ?_; rintro e w1 ⟨rfl, rfl⟩)
      go_roundw
      case rel => exact ⟨k + 1, by omega, by go_num, bel_set hbr (Nat.le_refl _) _, by rw [HSN.out hlt, HX.out, HB.out]; exact World.cell?_setCell_same' _ _ _ (by rw [HCF.out.1]; rfl), by rw [World.frozen?_setCell]; exact HCF.out.2⟩
      case measure => simp [intOf]; omega
    · have hk' : k = bs.length := by omega
      have HK := Lib.hid hk'
      obtain ⟨u0, u1⟩ := hu
      clear hk'
      go_wp2
      go_ret
      refine ⟨ret_int ?_, hbr⟩
      unfold crcMore
      rw [HN.out]
      have h1 := HX.out
      rw [HK.out, List.take_length] at h1
      rw [h1]
      rfl
theorem crcSum_calls (bs : List UInt8) (v : Value) (w : World) (F : Nat → Prop) (hv : SL byteK w F v bs) :
    Calls Tryz.prog 114 #[v] w fun e w' => e = .returned (.int .u32 (crcSum bs)) ∧ Below w.heap.size w w' := by
  obtain ⟨A, c, rfl, _, _⟩ := hv.form
  have HC := Lib.hid (crcMore_calls 0 bs _ w F ⟨by omega, by omega⟩ hv)
  go_enter Tryz.func114, Tryz.ntmps114
  go_wp2_with (go_at_call 151; refine HC.out.mono ?_; rintro e w1 ⟨rfl, hb1⟩)
  go_ret
  exact ⟨rfl, hb1⟩

/-- make([]byte, n). -/
def zerosB (n : Nat) : List UInt8 := List.replicate n 0
theorem makeBytes (n : Nat) (w : World) (hn : n ≤ 65536) : ∃ w', (Instr.makeSlice 36 (.int .i64 (n : Int)) (.int .i64 (n : Int))).run Tryz.prog w = .ok (.slice (some ⟨w.heap.size, 0, none⟩) n n) w' ∧ Own byteK 5 w' w.heap.size (fun _ => False) (.slice (some ⟨w.heap.size, 0, none⟩) n n) (zerosB n) ∧ Below w.heap.size w w' := by
  obtain ⟨i, z, hi, hz, hs, hb, hzs⟩ := elemByte.info
  obtain ⟨w', h1, h2, h3⟩ := run_makeSlice_full (P := Tryz.prog) w w.heap.size 36 5 i z 1 Tryz.underlying36 hi hz hs .i64 .i64 n (by omega) (by rw [hb]; omega) (by unfold maxLen; omega) (Nat.le_refl _)
  have h0 : i.zero = some (.int .u8 0) := by
    have := infoByte
    rw [hi] at this
    simp at this
    exact this.1
  have hzz : z = .int .u8 0 := by rw [hz] at h0; injection h0
  refine ⟨w', h1, ⟨_, by rw [zerosB, List.length_replicate]; exact h2, ?_⟩, ⟨h3.os, h3.tape, h3.output, h3.size, fun k hk => h3.block k hk (by simp)⟩⟩
  rw [hzz]
  show Rel _ _ (madeCells #[.int .u8 0] (n * 1)).toList
  rw [Nat.mul_one, toList_madeCells_one]
  clear h1 h2 h3 hn
  induction n with
  | zero => exact .nil
  | succ n ih => rw [zerosB, List.replicate_succ, List.replicate_succ]; exact .cons (c := [.int .u8 0]) ⟨rfl, trivial⟩ ih
theorem rel_set {w w' : World} {F : Nat → Prop} : ∀ {bs : List UInt8} {cs : List Value} (k : Nat) (b : UInt8), Rel (byteK.rel w F) bs cs → Rel (byteK.rel w' F) (bs.set k b) (cs.set k (.int .u8 (b.toNat : Int))) := by
  intro bs cs k b h
  induction h generalizing k with
  | nil => exact .nil
  | @cons x c xs cs h1 h2 ih =>
    obtain ⟨rfl, _⟩ := h1
    cases k with
    | zero => exact .cons (c := [.int .u8 (b.toNat : Int)]) ⟨rfl, trivial⟩ (h2.mono fun _ _ h => h)
    | succ k => exact .cons (c := [.int .u8 (x.toNat : Int)]) ⟨rfl, trivial⟩ (ih k)
theorem Own.setByte {w : World} {base g n cap k : Nat} {F : Nat → Prop} {bs : List UInt8} (h : Own byteK 5 w base F (.slice (some ⟨g, 0, none⟩) n cap) bs) (b : UInt8) :
    Own byteK 5 (w.setCell ⟨g, k, none⟩ (.int .u8 (b.toNat : Int))) base F (.slice (some ⟨g, 0, none⟩) n cap) (bs.set k b) := by
  obtain ⟨cs, ho, hr⟩ := h
  have hn : n = bs.length := by
    rcases ho.2 with ⟨h1, _⟩ | ⟨g', cap', cur, h1, _⟩
    · cases h1
    · injection h1
  subst hn
  exact ⟨_, by rw [List.length_set]; exact (World.ownsRow.stored ho k _).1, rel_set k b hr⟩
theorem Own.frozen {α : Type} {d : Kind α} {e : Nat} {w : World} {base g n cap : Nat} {F : Nat → Prop} {xs : List α} (h : Own d e w base F (.slice (some ⟨g, 0, none⟩) n cap) xs) (o : Nat) : w.frozen? ⟨g, o, none⟩ = false := by
  obtain ⟨cs, ho, hr⟩ := h
  have hn : n = xs.length := by
    rcases ho.2 with ⟨h1, _⟩ | ⟨g', cap', cur, h1, _⟩
    · cases h1
    · injection h1
  subst hn
  exact World.ownsRow.frozenAt ho o
/-- The bytes laid so far. -/
def laid (f : Nat → UInt8) (n k : Nat) : List UInt8 := (List.range k).map f ++ zerosB (n - k)
theorem laid_len (f : Nat → UInt8) {n k : Nat} (h : k ≤ n) : (laid f n k).length = n := by simp [laid, zerosB]; omega
theorem laid_set (f : Nat → UInt8) {n k : Nat} (h : k < n) : (laid f n k).set k (f k) = laid f n (k + 1) := by
  unfold laid
  rw [show n - k = (n - (k + 1)) + 1 by omega, zerosB, List.replicate_succ, List.set_append_right _ _ (by simp), List.range_succ, List.map_append]
  simp [zerosB]
theorem laid_all (f : Nat → UInt8) (n : Nat) : laid f n n = (List.range n).map f := by simp [laid, zerosB]
def putByte (s : Int) (k : Nat) : UInt8 := UInt8.ofNat (s / 2 ^ (8 * k) % 256).toNat
theorem putByte_val (s : Int) (k : Nat) : ((putByte s k).toNat : Int) = s / 2 ^ (8 * k) % 256 := u8_of _ (by omega) (by omega)
def crcPut (s : Int) : List UInt8 := (List.range 4).map (putByte s)
set_option maxRecDepth 100000 in
theorem crcPut_calls (s : Int) (w : World) (hs : U32 s) :
    Calls Tryz.prog 90 #[.int .u32 s] w fun e w' => (∃ v, e = .returned v ∧ Own byteK 5 w' w.heap.size (fun _ => False) v (crcPut s)) ∧ Below w.heap.size w w' := by
  obtain ⟨s0, s1⟩ := hs
  obtain ⟨wm, hm1, hm2, hm3⟩ := makeBytes 4 w (by omega)
  have hm1' : (Instr.makeSlice 36 (.int .i64 4) (.int .i64 4)).run Tryz.prog w = .ok (.slice (some ⟨w.heap.size, 0, none⟩) 4 4) wm := hm1
  go_enter Tryz.func90, Tryz.ntmps90
  go_wp2
  go_loopw [8] (fun vi wr => ∃ (k : Nat), k ≤ 4 ∧ vi = .int .i64 k ∧ Own byteK 5 wr w.heap.size (fun _ => False) (.slice (some ⟨w.heap.size, 0, none⟩) 4 4) (laid (putByte s) 4 k) ∧ Below w.heap.size w wr) (fun vi _ => 4 - (intOf vi).toNat)
  case atStart => exact ⟨0, by omega, by simp, by simpa [laid] using hm2, hm3⟩
  case round =>
    obtain ⟨k, hk, rfl, hO, hb⟩ := hrel
    by_cases hlt : k < 4
    · obtain ⟨ad, had, _, y0⟩ := byte_at hO.sl (i := k) (by rw [laid_len _ hk]; omega)
      obtain rfl := Option.some.inj had
      obtain ⟨u, hu⟩ : ∃ u : Int, (((laid (putByte s) 4 k).getD k 0).toNat : Int) = u := ⟨_, rfl⟩
      have y0' : wr.cell? ⟨w.heap.size, k, none⟩ = some (.int .u8 u) := by rw [← hu, ← y0]; unfold Addr.add; split <;> simp_all
      have hf := hO.frozen
      have HO := Lib.hid hO
      clear y0 hO
      go_wp2
      go_roundw
      case rel =>
        refine ⟨k + 1, by omega, by go_num, ?_, bel_set hb (Nat.le_refl _) _⟩
        have := HO.out.setByte (k := k) (putByte s k)
        rwa [laid_set _ hlt, putByte_val] at this
      case measure => simp [intOf]; omega
    · have hk' : k = 4 := by omega
      have HO := Lib.hid hO
      have HK := Lib.hid hk'
      clear hO hk'
      go_wp2
      go_ret
      exact ⟨⟨_, rfl, by have := HO.out; rw [HK.out, laid_all] at this; exact this⟩, hb⟩

def crcSeal (bs : List UInt8) : List UInt8 := bs ++ crcPut (crcSum bs)
set_option maxRecDepth 100000 in
set_option maxHeartbeats 1000000 in
theorem crcSeal_calls (bs : List UInt8) (v : Value) (w : World) (F : Nat → Prop) (hv : SL byteK w F v bs) (hn : bs.length ≤ 1099511627776) :
    Calls Tryz.prog 63 #[v] w fun e w' => (∃ v, e = .returned v ∧ Own byteK 5 w' w.heap.size (fun _ => False) v (crcSeal bs)) ∧ Below w.heap.size w w' := by
  obtain ⟨A, c, rfl, _, _⟩ := hv.form
  have hs1 : SL byteK (w.alloc (.cells #[] 5)) (fun k => F k ∧ k < w.heap.size) (.slice A bs.length c) bs := hv.since (bel_alloc (Below.refl _ _) _)
  have ho : Own byteK 5 (w.alloc (.cells #[] 5)) w.heap.size (fun _ => False) (.slice (some ⟨w.heap.size, 0, none⟩) 0 0) [] := Own.empty _ _ _ _ _ (Nat.le_refl _) (by simp)
  have SM := Lib.hid (fun W (h : Below w.heap.size w W) => crcSum_calls bs _ W F (hv.below h))
  have PT := Lib.hid (fun W => crcPut_calls (crcSum bs) W (crcSum_u32 bs))
  go_enter Tryz.func63, Tryz.ntmps63
  go_wp2_with (first
    | (go_at_call 114; refine (SM.out _ hb1).mono ?_; rintro e w2 ⟨rfl, hb2⟩)
    | (go_at_call 90; refine (PT.out _).mono ?_; rintro e w3 ⟨⟨v3, rfl, ho3⟩, hb3⟩; obtain ⟨A3, c3, rfl, _, _⟩ := ho3.sl.form; have ho4 := (ho1.below hb2).below hb3; have hb4 := bel_trans (bel_trans hb1 hb2) hb3; have hs3 := ho3.sl)
    | (at_builtin; refine wpList_append_sl byteK elemByte rfl _ _ 36 rfl Tryz.underlying36 rfl ho4 rfl hs3 flatF flatF (by unfold maxLen; simp only [List.nil_append, crcPut, List.length_map, List.length_range]; omega) (by simp only [List.nil_append, crcPut, List.length_map, List.length_range]; omega) hb4.size ?_; rintro v5 w5 ⟨ho5, hg5, ha5⟩; have hb5 : Below w.heap.size w w5 := bel_grown hb4 hg5 (fun k hk => (ho4.lt k hk).1))
    | (at_builtin; refine wpList_append_sl byteK elemByte rfl _ _ 36 rfl Tryz.underlying36 rfl ho rfl hs1 flatF flatF (by unfold maxLen; simp only [List.length_nil]; omega) (by simp only [List.length_nil]; omega) (by simp) ?_; rintro v1 w1 ⟨ho1, hg1, ha1⟩; have hb1 : Below w.heap.size w w1 := bel_grown (bel_alloc (Below.refl _ _) _) hg1 (fun k hk => by injection hk with hk; exact Nat.le_of_eq hk)))
  go_ret
  exact ⟨⟨_, rfl, own_flat ho5⟩, hb5⟩
end Go.Proofs.YtlhdndnohmikeaaGreatDoor

set_option linter.unusedVariables false
set_option linter.unusedSimpArgs false
namespace Go.Proofs.YtlhdndnohmikeaaGreatDoor
open Go.RowKit

theorem bitLenAux_le : ∀ f x, Lib.bitLenAux f x ≤ f
  | 0, _ => by simp [Lib.bitLenAux]
  | f + 1, x => by
    simp only [Lib.bitLenAux]
    split
    · omega
    · have := bitLenAux_le f (x / 2); omega
theorem bitLen_le (x : Nat) : Lib.bitLen x ≤ 64 := bitLenAux_le 64 x
def uSize (x : Int) : Nat := (max 1 (Lib.bitLen x.toNat) + 6) / 7
theorem uSize_pos (x : Int) : 1 ≤ uSize x ∧ uSize x ≤ 10 := by
  have := bitLen_le x.toNat
  unfold uSize
  constructor <;> omega
theorem wireSize_calls (x : Int) (w : World) (hx : U64 x) :
    Calls Tryz.prog 136 #[.int .u64 x] w fun e w' => e = .returned (.int .i64 (uSize x : Nat)) ∧ w = w' := by
  obtain ⟨x0, x1⟩ := hx
  have HL := Lib.hid (len64_calls x w x0 x1)
  have hb := bitLen_le x.toNat
  have HU : Hid ((max 1 (Lib.bitLen x.toNat : Int) + 7 - 1) / 7 = (uSize x : Nat)) := by
    show _ = _
    unfold uSize
    omega
  obtain ⟨n, hn⟩ : ∃ n, Lib.bitLen x.toNat = n := ⟨_, rfl⟩
  rw [hn] at HL HU hb
  clear hn
  go_enter Tryz.func136, Tryz.ntmps136
  go_wp2_with (go_at_call 171; refine HL.out.mono ?_; rintro e w1 ⟨rfl, rfl⟩)
  go_ret
  exact ⟨ret_int HU.out, rfl⟩
def zig (x : Int) : Int := bits .xor .u64 (IntKind.u64.wrap (wrap64 (x * 2))) (IntKind.u64.wrap (x / 9223372036854775808))
theorem bits_u64 (op : BinOp) (x y : Int) : U64 (bits op .u64 x y) := by
  unfold bits
  simp only [wrapU]
  constructor <;> omega
theorem zig_u64 (x : Int) : U64 (zig x) := bits_u64 _ _ _
theorem zig_calls (x : Int) (w : World) (hx : I64 x) :
    Calls Tryz.prog 174 #[.int .i64 x] w fun e w' => e = .returned (.int .u64 (zig x)) ∧ w = w' := by
  obtain ⟨x0, x1⟩ := hx
  go_enter Tryz.func174, Tryz.ntmps174
  go_wp2
  go_ret
  exact ⟨rfl, rfl⟩
theorem or128' : ∀ v : Fin 256, bits .or .u8 (v.val : Int) 128 = ((v.val % 128 + 128 : Nat) : Int) := by decide +kernel
theorem andNot128' : ∀ v : Fin 256, bits .andNot .u8 (v.val : Int) 128 = ((v.val % 128 : Nat) : Int) := by decide +kernel
theorem or128 (v : Int) (h0 : 0 ≤ v) (h1 : v < 256) : bits .or .u8 v 128 = v % 128 + 128 := by
  have := or128' ⟨v.toNat, by omega⟩
  simp only at this
  rw [show ((v.toNat : Nat) : Int) = v by omega] at this
  rw [this]; omega
theorem andNot128 (v : Int) (h0 : 0 ≤ v) (h1 : v < 256) : bits .andNot .u8 v 128 = v % 128 := by
  have := andNot128' ⟨v.toNat, by omega⟩
  simp only at this
  rw [show ((v.toNat : Nat) : Int) = v by omega] at this
  rw [this]; omega
/-- Seven bits of a number, with the mark that more follows. -/
def uByte (x : Int) (k : Nat) : UInt8 := UInt8.ofNat (x / 2 ^ (7 * k) % 128 + 128).toNat
def uLast (x : Int) (k : Nat) : UInt8 := UInt8.ofNat (x / 2 ^ (7 * k) % 128).toNat
theorem uByte_val (x : Int) (k : Nat) : ((uByte x k).toNat : Int) = x / 2 ^ (7 * k) % 128 + 128 := u8_of _ (by omega) (by omega)
theorem uLast_val (x : Int) (k : Nat) : ((uLast x k).toNat : Int) = x / 2 ^ (7 * k) % 128 := u8_of _ (by omega) (by omega)
def wireUint (x : Int) : List UInt8 := (List.range (uSize x - 1)).map (uByte x) ++ [uLast x (uSize x - 1)]
theorem wireUint_len (x : Int) : (wireUint x).length = uSize x := by
  have := uSize_pos x
  simp [wireUint]; omega
set_option maxRecDepth 100000 in
set_option maxHeartbeats 1000000 in
theorem wireUint_calls (x : Int) (w : World) (hx : U64 x) :
    Calls Tryz.prog 89 #[.int .u64 x] w fun e w' => (∃ v, e = .returned v ∧ Own byteK 5 w' w.heap.size (fun _ => False) v (wireUint x)) ∧ Below w.heap.size w w' := by
  have HSZ := Lib.hid (wireSize_calls x w hx)
  obtain ⟨x0, x1⟩ := hx
  obtain ⟨n0, n1⟩ := uSize_pos x
  have HW : Hid (wireUint x = (List.range (uSize x - 1)).map (uByte x) ++ [uLast x (uSize x - 1)]) := rfl
  obtain ⟨n, hn⟩ : ∃ n, uSize x = n := ⟨_, rfl⟩
  rw [hn] at HSZ HW n0 n1
  clear hn
  obtain ⟨wm, hm1, hm2, hm3⟩ := makeBytes n w (by omega)
  obtain ⟨m, hm⟩ : ∃ m, n = m + 1 := ⟨n - 1, by omega⟩
  have hm' : (n : Int) - 1 = m := by omega
  have HM := Lib.hid hm
  clear hm
  go_enter Tryz.func89, Tryz.ntmps89
  go_wp2_with (go_at_call 136; refine HSZ.out.mono ?_; rintro e w1 ⟨rfl, rfl⟩)
  go_loopw [10] (fun vi wr => ∃ (k : Nat), k ≤ n ∧ vi = .int .i64 k ∧ Own byteK 5 wr w.heap.size (fun _ => False) (.slice (some ⟨w.heap.size, 0, none⟩) n n) (laid (uByte x) n k) ∧ Below w.heap.size w wr) (fun vi _ => n - (intOf vi).toNat)
  case atStart => exact ⟨0, by omega, by simp, by simpa [laid] using hm2, hm3⟩
  case round =>
    obtain ⟨k, hk, rfl, hO, hb⟩ := hrel
    by_cases hlt : k < n
    · obtain ⟨ad, had, _, y0⟩ := byte_at hO.sl (i := k) (by rw [laid_len _ hk]; omega)
      obtain rfl := Option.some.inj had
      obtain ⟨u, hu⟩ : ∃ u : Int, (((laid (uByte x) n k).getD k 0).toNat : Int) = u := ⟨_, rfl⟩
      have y0' : wr.cell? ⟨w.heap.size, k, none⟩ = some (.int .u8 u) := by rw [← hu, ← y0]; unfold Addr.add; split <;> simp_all
      have hf := hO.frozen
      have HO := Lib.hid hO
      have k0 : (k : Int) < n := by omega
      have HOR := Lib.hid (or128 (x / 2 ^ (7 * k) % 256) (by omega) (by omega))
      clear y0 hO
      go_wp2
      go_roundw
      case rel =>
        refine ⟨k + 1, by omega, by go_num, ?_, bel_set hb (Nat.le_refl _) _⟩
        have h1 := HO.out.setByte (k := k) (uByte x k)
        rw [laid_set _ hlt, uByte_val] at h1
        rw [HOR.out, show x / 2 ^ (7 * k) % 256 % 128 + 128 = x / 2 ^ (7 * k) % 128 + 128 by omega]
        exact h1
      case measure => simp [intOf]; omega
    · have hk' : k = n := by omega
      subst hk'
      have hm2' : m < k := by have := HM.out; omega
      have hl : laid (uByte x) k k = (List.range m).map (uByte x) ++ [uByte x m] := by
        rw [laid_all]
        conv => lhs; rw [HM.out]
        rw [List.range_succ, List.map_append]; rfl
      obtain ⟨ad, had, _, y0⟩ := byte_at hO.sl (i := m) (by rw [laid_len _ hk]; omega)
      obtain rfl := Option.some.inj had
      have hu : (((laid (uByte x) k k).getD m 0).toNat : Int) = x / 2 ^ (7 * m) % 128 + 128 := by
        rw [hl, ← uByte_val]; simp
      have y0' : wr.cell? ⟨w.heap.size, m, none⟩ = some (.int .u8 (x / 2 ^ (7 * m) % 128 + 128)) := by rw [← hu, ← y0]; unfold Addr.add; split <;> simp_all
      have hf := hO.frozen
      have HO := Lib.hid hO
      have hm0 : (m : Int) < k := by omega
      have HAN := Lib.hid (andNot128 (x / 2 ^ (7 * m) % 128 + 128) (by omega) (by omega))
      have HLL := Lib.hid hl
      clear y0 hO hu hl
      go_wp2
      refine bodyPost_ret (results_tmp rfl _ _ _) rfl ⟨⟨_, rfl, ?_⟩, bel_set hb (Nat.le_refl _) _⟩
      have h1 := HO.out.setByte (k := m) (uLast x m)
      rw [HAN.out, show (x / 2 ^ (7 * m) % 128 + 128) % 128 = x / 2 ^ (7 * m) % 128 by omega, ← uLast_val, HW.out, show k - 1 = m by have := HM.out; omega]
      rw [HLL.out, List.set_append_right _ _ (by simp)] at h1
      simpa using h1
end Go.Proofs.YtlhdndnohmikeaaGreatDoor

set_option linter.unusedVariables false
set_option linter.unusedSimpArgs false
namespace Go.Proofs.YtlhdndnohmikeaaGreatDoor
open Go.RowKit

def wireBytes (bs : List UInt8) : List UInt8 := wireUint (bs.length : Int) ++ bs
theorem wireUint_len10 (x : Int) : (wireUint x).length ≤ 10 := by rw [wireUint_len]; exact (uSize_pos x).2
set_option maxRecDepth 100000 in
theorem wireBytes_calls (bs : List UInt8) (v : Value) (w : World) (F : Nat → Prop) (hv : SL byteK w F v bs) (hn : bs.length ≤ 1099511627776) :
    Calls Tryz.prog 116 #[v] w fun e w' => (∃ v, e = .returned v ∧ Own byteK 5 w' w.heap.size (fun _ => False) v (wireBytes bs)) ∧ Below w.heap.size w w' := by
  obtain ⟨A, c, rfl, _, _⟩ := hv.form
  have HU := Lib.hid (wireUint_calls (bs.length : Int) w ⟨by omega, by omega⟩)
  have hl10 := wireUint_len10 (bs.length : Int)
  go_enter Tryz.func116, Tryz.ntmps116
  go_wp2_with (first
    | (go_at_call 89; refine HU.out.mono ?_; rintro e w1 ⟨⟨v1, rfl, ho1⟩, hb1⟩; have hs1 := hv.below hb1)
    | (at_builtin; refine wpList_append_sl byteK elemByte rfl _ _ 36 rfl Tryz.underlying36 rfl ho1 rfl hs1 flatF flatF (by unfold maxLen; omega) (by omega) hb1.size ?_; rintro v5 w5 ⟨ho5, hg5, ha5⟩; have hb5 : Below w.heap.size w w5 := bel_grown hb1 hg5 (fun k hk => (ho1.lt k hk).1)))
  go_ret
  exact ⟨⟨_, rfl, own_flat ho5⟩, hb5⟩
theorem wireInt_calls (x : Int) (w : World) (hx : I64 x) :
    Calls Tryz.prog 144 #[.int .i64 x] w fun e w' => (∃ v, e = .returned v ∧ Own byteK 5 w' w.heap.size (fun _ => False) v (wireUint (zig x))) ∧ Below w.heap.size w w' := by
  have HZ := Lib.hid (zig_calls x w hx)
  have HU := Lib.hid (wireUint_calls (zig x) w (zig_u64 x))
  obtain ⟨y, hy⟩ : ∃ y, zig x = y := ⟨_, rfl⟩
  rw [hy] at HZ HU ⊢
  clear hy
  go_enter Tryz.func144, Tryz.ntmps144
  go_wp2_with (first
    | (go_at_call 174; refine HZ.out.mono ?_; rintro e w1 ⟨rfl, rfl⟩)
    | (go_at_call 89; refine HU.out.mono ?_; rintro e w1 ⟨⟨v1, rfl, ho1⟩, hb1⟩))
  go_ret
  exact ⟨⟨_, rfl, ho1⟩, hb1⟩

theorem Own.lower {α : Type} {d : Kind α} {e : Nat} {w : World} {base base' : Nat} {F : Nat → Prop} {v : Value} {xs : List α} (h : Own d e w base F v xs) (hb : base' ≤ base) : Own d e w base' F v xs := by
  obtain ⟨cs, ho, hr⟩ := h
  refine ⟨cs, ⟨ho.1, ?_⟩, hr⟩
  rcases ho.2 with h1 | ⟨g, cap, cur, h1, h2, h3⟩
  · exact .inl h1
  · exact .inr ⟨g, cap, cur, h1, Nat.le_trans hb h2, h3⟩
/-- A frame's bytes. -/
def frameBytes (kind : Int) (pl : List UInt8) : List UInt8 := crcSeal (UInt8.ofNat kind.toNat :: wireBytes pl)
def frameErr (kind : Int) (pl : List UInt8) : Int := if kind < 0 ∨ 2 < kind then 10 else if 1048576 < pl.length then 13 else 0
theorem one_byte (w : World) (x : Int) (h0 : 0 ≤ x) (h1 : x < 256) : Own byteK 5 (w.alloc (.cells #[.int .u8 x] 5)) w.heap.size (fun _ => False) (.slice (some ⟨w.heap.size, 0, none⟩) 1 1) [UInt8.ofNat x.toNat] :=
  ⟨[.int .u8 x], World.ownsRow_lit w #[.int .u8 x] 1 (Nat.le_refl _) (by unfold maxLen; omega) rfl, .cons (c := [.int .u8 x]) ⟨by show _ = [Value.int .u8 ((UInt8.ofNat x.toNat).toNat : Int)]; rw [u8_of x h0 h1], trivial⟩ .nil⟩
set_option maxRecDepth 100000 in
set_option maxHeartbeats 1000000 in
theorem frameWrite_calls (kind : Int) (pl : List UInt8) (v : Value) (w : World) (F : Nat → Prop) (hk : I64 kind) (hv : SL byteK w F v pl) :
    Calls Tryz.prog 68 #[.int .i64 kind, v] w fun e w' => (∃ vo, e = .returned (.tuple #[vo, .int .i64 (frameErr kind pl)]) ∧ Own byteK 5 w' w.heap.size (fun _ => False) vo (if frameErr kind pl = 0 then frameBytes kind pl else [])) ∧ Below w.heap.size w w' := by
  have hl := hv.len_le
  unfold maxLen at hl
  obtain ⟨A, c, rfl, _, _⟩ := hv.form
  obtain ⟨k0, k1⟩ := hk
  obtain ⟨fe, hfe⟩ : ∃ fe, frameErr kind pl = fe := ⟨_, rfl⟩
  obtain ⟨res, hres⟩ : ∃ r, (if fe = 0 then frameBytes kind pl else []) = r := ⟨_, rfl⟩
  rw [hfe, hres]
  have HR := Lib.hid (And.intro hfe hres)
  clear hfe hres
  by_cases h0 : kind < 0
  · have HF := Lib.hid (show fe = 10 ∧ res = [] from (fun e : fe = 10 => ⟨e, by rw [← HR.out.2, e]; rfl⟩) (by rw [← HR.out.1]; simp [frameErr, h0]))
    have g0 : decide (kind < 0) = true := decide_eq_true h0
    go_enter Tryz.func68, Tryz.ntmps68
    go_wp2
    refine bodyPost_ret (results_tmp2 rfl _ _ _) rfl ⟨⟨.slice none 0 0, by rw [HF.out.1]; simp, by rw [HF.out.2]; exact Own.nil _ _ _ _ _⟩, Below.refl _ _⟩
  · have g0 : decide (kind < 0) = false := decide_eq_false h0
    by_cases h2 : 2 < kind
    · have HF := Lib.hid (show fe = 10 ∧ res = [] from (fun e : fe = 10 => ⟨e, by rw [← HR.out.2, e]; rfl⟩) (by rw [← HR.out.1]; simp [frameErr, h2]))
      have g2 : decide (2 < kind) = true := decide_eq_true h2
      go_enter Tryz.func68, Tryz.ntmps68
      go_wp2
      refine bodyPost_ret (results_tmp2 rfl _ _ _) rfl ⟨⟨.slice none 0 0, by rw [HF.out.1]; simp, by rw [HF.out.2]; exact Own.nil _ _ _ _ _⟩, Below.refl _ _⟩
    · have g2 : decide (2 < kind) = false := decide_eq_false h2
      by_cases hb : 1048576 < pl.length
      · have HF := Lib.hid (show fe = 13 ∧ res = [] from (fun e : fe = 13 => ⟨e, by rw [← HR.out.2, e]; rfl⟩) (by rw [← HR.out.1]; simp [frameErr, h0, h2, hb]))
        have g3 : decide ((1048576 : Int) < (pl.length : Int)) = true := decide_eq_true (by omega)
        have g4 : decide (1048576 < pl.length) = true := decide_eq_true hb
        go_enter Tryz.func68, Tryz.ntmps68
        go_wp2
        refine bodyPost_ret (results_tmp2 rfl _ _ _) rfl ⟨⟨.slice none 0 0, by rw [HF.out.1]; simp, by rw [HF.out.2]; exact Own.nil _ _ _ _ _⟩, Below.refl _ _⟩
      · have HF := Lib.hid (show fe = 0 ∧ res = frameBytes kind pl from (fun e : fe = 0 => ⟨e, by rw [← HR.out.2, e]; rfl⟩) (by rw [← HR.out.1]; simp [frameErr, h0, h2, hb]))
        have g3 : decide ((1048576 : Int) < (pl.length : Int)) = false := decide_eq_false (by omega)
        have g4 : decide (1048576 < pl.length) = false := decide_eq_false hb
        have ho1 := one_byte w kind (by omega) (by omega)
        have hb1 : Below w.heap.size w (w.alloc (.cells #[.int .u8 kind] 5)) := bel_alloc (Below.refl _ _) _
        have WB := Lib.hid (wireBytes_calls pl _ _ _ (hv.below hb1) (by omega))
        have hl10 := wireUint_len10 (pl.length : Int)
        have hwl : (wireBytes pl).length ≤ 1048586 := by unfold wireBytes; rw [List.length_append]; omega
        have kk : IntKind.u8.wrap kind = kind := by unfold IntKind.wrap; simp [IntKind.bits, IntKind.signed]; omega
        have kk2 : kind % 256 = kind := by omega
        go_enter Tryz.func68, Tryz.ntmps68
        go_wp2_with (first
          | (go_at_call 116; refine WB.out.mono ?_; rintro e w2 ⟨⟨v2, rfl, ho2⟩, hb2⟩; obtain ⟨A2, c2, rfl, _, _⟩ := ho2.sl.form; have hs2 := ho2.sl; have hb3 := bel_trans hb1 hb2; have ho3 := ho1.below hb2)
          | (at_builtin; refine wpList_append_sl byteK elemByte rfl _ _ 36 rfl Tryz.underlying36 rfl ho3 rfl hs2 flatF flatF (by unfold maxLen; simp only [List.length_singleton]; omega) (by simp only [List.length_singleton]; omega) hb3.size ?_; rintro v5 w5 ⟨ho5, hg5, ha5⟩; have hb5 : Below w.heap.size w w5 := bel_grown hb3 hg5 (fun k hk => (ho3.lt k hk).1))
          | (go_at_call 63; refine (crcSeal_calls _ _ w5 _ ho5.sl (by simp only [List.length_append, List.length_singleton]; omega)).mono ?_; rintro e w6 ⟨⟨v6, rfl, ho6⟩, hb6⟩))
        refine bodyPost_ret (results_tmp2 rfl _ _ _) rfl ⟨⟨v6, by rw [HF.out.1]; simp, ?_⟩, bel_trans hb5 hb6⟩
        rw [HF.out.2]
        exact ho6.lower hb5.size
end Go.Proofs.YtlhdndnohmikeaaGreatDoor
