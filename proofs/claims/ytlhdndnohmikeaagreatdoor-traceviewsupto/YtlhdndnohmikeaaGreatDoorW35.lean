/-
  Walks: cells of one kind, written: numbers.
-/
import Derived.Test.YtlhdndnohmikeaaGreatDoorMW26
import Derived.Shelf.RegionOpenPlain
set_option linter.unusedVariables false
set_option linter.unusedSimpArgs false
namespace Go.Proofs.YtlhdndnohmikeaaGreatDoor
open Go.RowKit

/-- The step from one number to the next, of either sign. -/
def dInt (a b : Int) : Int := wrap64 (IntKind.u64.wrap (a - b))
theorem dInt_i64 (a b : Int) : I64 (dInt a b) := by
  unfold dInt I64 wrap64
  constructor <;> omega
def deltas (last : Int) : List Cell → List UInt8
  | [] => []
  | c :: cs => wireUint (zig (dInt c.num last)) ++ deltas c.num cs
def lastNum (last : Int) : List Cell → Int
  | [] => last
  | c :: cs => lastNum c.num cs
theorem deltas_snoc : ∀ (l : List Cell) (last : Int) (c : Cell), deltas last (l ++ [c]) = deltas last l ++ wireUint (zig (dInt c.num (lastNum last l)))
  | [], last, c => by simp [deltas, lastNum]
  | x :: l, last, c => by simp [deltas, lastNum, deltas_snoc l]
theorem lastNum_snoc : ∀ (l : List Cell) (last : Int) (c : Cell), lastNum last (l ++ [c]) = c.num
  | [], _, _ => rfl
  | x :: l, _, c => by simp [lastNum, lastNum_snoc l]
theorem deltas_len : ∀ (l : List Cell) (last : Int), (deltas last l).length ≤ 10 * l.length
  | [], _ => by simp [deltas]
  | c :: l, last => by
    have h1 := deltas_len l c.num
    have h2 := wireUint_len10 (zig (dInt c.num last))
    simp only [deltas, List.length_append, List.length_cons]
    omega
theorem lastNum_u64 : ∀ (l : List Cell) (last : Int), U64 last → (∀ c ∈ l, U64 c.num) → U64 (lastNum last l)
  | [], _, h, _ => h
  | c :: l, _, _, h => lastNum_u64 l c.num (h c (by simp)) fun x hx => h x (by simp [hx])
theorem cells_u64 {w : World} {F : Nat → Prop} {v : Value} {l : List Cell} (h : SL cellK w F v l) : ∀ c ∈ l, U64 c.num := fun c hc => by
  obtain ⟨i, hi, rfl⟩ := List.getElem_of_mem hc
  obtain ⟨A, cp, rfl, _, _⟩ := h.form
  obtain ⟨ad, _, _, _, _, hu, _⟩ := cell_at h hi
  exact hu

theorem bel_lo {B : Nat} {w W : World} {o : Obj} (h : Below B w W) (hB : B ≤ w.heap.size) : Below B w (W.alloc o) := h.alloc (Nat.le_trans hB h.size) o
theorem row_ne' {v : Value} {b : Nat} (h : ∀ k, v.ownBlock = some k → k < b) : v.ownBlock ≠ some b := fun e => by have := h b e; omega
theorem lo_trans {B : Nat} {w W W' : World} (h : Below B w W) (k : Below W.heap.size W W') (hB : B ≤ W.heap.size) : Below B w W' := h.trans (k.mono hB)
theorem SL.lo {α : Type} {d : Kind α} {w w' : World} {F : Nat → Prop} {v : Value} {xs : List α} {B : Nat} (h : SL d w F v xs) (hb : Below B w w') (hF : ∀ k, F k → k < B) : SL d w' F v xs := h.keep (Kept.of_below' hb hF) hb.size
set_option maxRecDepth 100000 in
set_option maxHeartbeats 1000000 in
theorem behind_calls (acc : List UInt8) (last : Int) (l : List Cell) (vb vl : Value) (w : World) (base : Nat) (F : Nat → Prop) (ho : Own byteK 5 w base (fun _ => False) vb acc) (hb : base ≤ w.heap.size) (hl : SL cellK w F vl l) (h0 : U64 last)
    (hF : ∀ k, F k → k < base) (ha : acc.length ≤ 1099511627776) (hn : l.length ≤ 1099511627776) :
    Calls Tryz.prog 232 #[vb, .int .u64 last, vl] w fun e w' => (∃ v, e = .returned v ∧ Own byteK 5 w' base (fun _ => False) v (acc ++ deltas last l)) ∧ Below base w w' := by
  obtain ⟨A, c, rfl, _, _⟩ := hl.form
  have hu := Lib.hid (cells_u64 hl)
  obtain ⟨l0, l1⟩ := h0
  have HL := Lib.hid (And.intro l0 l1)
  have WI := Lib.hid (fun (x : Int) (W : World) (hx : I64 x) => wireInt_calls x W hx)
  go_enter Tryz.func232, Tryz.ntmps232
  go_wp2
  go_loopw [0, 1, 11] (fun vo vn vi wr => ∃ k : Nat, k ≤ l.length ∧ vi = .int .i64 k ∧ vn = .int .u64 (lastNum last (l.take k)) ∧ Own byteK 5 wr base (fun _ => False) vo (acc ++ deltas last (l.take k)) ∧ Below base w wr) (fun _ _ vi _ => l.length - (intOf vi).toNat)
  case atStart => exact ⟨0, by omega, by simp, by simp [lastNum], by simpa [deltas] using ho, Below.refl _ _⟩
  case round =>
    obtain ⟨k, hk, rfl, rfl, hO, hbr⟩ := hrel
    by_cases hlt : k < l.length
    · obtain ⟨ad, rfl, l1, x0, x1, x2, x3⟩ := cell_at (hl.lo hbr hF) hlt
      have k0 : (k : Int) < l.length := by omega
      have hlk := deltas_len (l.take k) last
      have hlk1 := wireUint_len10 (zig (dInt l[k].num (lastNum last (l.take k))))
      have hsn : acc ++ deltas last (l.take (k + 1)) = acc ++ deltas last (l.take k) ++ wireUint (zig (dInt l[k].num (lastNum last (l.take k)))) := by rw [List.take_succ_eq_append_getElem hlt, deltas_snoc, List.append_assoc]
      have hls : lastNum last (l.take (k + 1)) = l[k].num := by rw [List.take_succ_eq_append_getElem hlt, lastNum_snoc]
      have hlu := lastNum_u64 (l.take k) last HL.out (fun c hc => hu.out c (List.mem_of_mem_take hc))
      have hal : (acc ++ deltas last (l.take k)).length ≤ 1099511627776 + 10995116277760 := by rw [List.length_append]; rw [List.length_take] at hlk; omega
      generalize lastNum last (l.take k) = ln at *
      generalize acc ++ deltas last (l.take k) = ac at *
      have HS := Lib.hid (And.intro hsn hls)
      clear hsn hls hlk
      obtain ⟨nm, hnm⟩ : ∃ x, l[k].num = x := ⟨_, rfl⟩
      rw [hnm] at x0 x2 HS hlk1
      clear hnm
      obtain ⟨n0, n1⟩ := x2
      obtain ⟨m0, m1⟩ := hlu
      have WIx := Lib.hid (fun W => WI.out (dInt nm ln) W (dInt_i64 _ _))
      have hsz := hbr.size
      go_wp2_with (first
        | (go_at_call 144; refine (WIx.out _).mono ?_; rintro e w2 ⟨⟨v2, rfl, ho2⟩, hb2⟩; obtain ⟨A2, c2, rfl, _, _⟩ := ho2.sl.form; have hb3 := lo_trans (bel_lo hbr hb) hb2 (by simp; omega); have ho3 := (hO.al _).below hb2; have hs3 := ho2.sl; have hz3 := hb3.size)
        | (at_builtin; refine wpList_append_sl byteK elemByte rfl _ _ 36 rfl Tryz.underlying36 rfl ho3 rfl hs3 flatF flatF (by unfold maxLen; omega) (by omega) (by omega) ?_; rintro v5 w5 ⟨ho5, hg5, ha5⟩; have q0 : w5.cell? ⟨wr.heap.size, 0, none⟩ = some (.int .u64 nm) := cell_grown hg5 (row_ne' (fun k hk => (hO.lt k hk).2)) (cell_by hb2 (by simp)); have hb5 := hb3.grown hg5 (by omega) (fun k hk => (hO.lt k hk).1)))
      go_roundw
      case rel => exact ⟨k + 1, by omega, by go_num, by rw [HS.out.2], by rw [HS.out.1]; exact own_flat ho5, hb5⟩
      case measure => simp [intOf]; omega
    · have hk' : k = l.length := by omega
      have HO := Lib.hid hO
      have HK := Lib.hid hk'
      clear hO hk'
      go_wp2
      go_ret
      refine ⟨⟨_, rfl, ?_⟩, hbr⟩
      have h1 := HO.out
      rw [HK.out, List.take_length] at h1
      exact h1
theorem writeSigned_calls (l : List Cell) (vl : Value) (w : World) (F : Nat → Prop) (hl : SL cellK w F vl l) (hn : l.length ≤ 1099511627776) :
    Calls Tryz.prog 211 #[vl] w fun e w' => (∃ v, e = .returned v ∧ Own byteK 5 w' w.heap.size (fun _ => False) v (deltas 0 l)) ∧ Below w.heap.size w w' := by
  have BH := Lib.hid (behind_calls [] 0 l (.slice none 0 0) vl w w.heap.size (fun k => F k ∧ k < w.heap.size) (Own.nil _ _ _ _ _) (Nat.le_refl _) hl.bound ⟨by omega, by omega⟩ (fun k h => h.2) (by simp) hn)
  obtain ⟨A, c, rfl, _, _⟩ := hl.form
  go_enter Tryz.func211, Tryz.ntmps211
  go_wp2_with (go_at_call 232; refine BH.out.mono ?_; rintro e w1 ⟨⟨v1, rfl, ho1⟩, hb1⟩)
  go_ret
  exact ⟨⟨_, rfl, ho1⟩, hb1⟩
/-- Numbers: the first as it is, the others by their steps. -/
def numbers : List Cell → List UInt8
  | [] => []
  | c :: cs => wireUint c.num ++ deltas c.num cs
set_option maxRecDepth 100000 in
set_option maxHeartbeats 1000000 in
theorem writeNumbers_calls (l : List Cell) (vl : Value) (w : World) (F : Nat → Prop) (hl : SL cellK w F vl l) (hn : l.length ≤ 1099511627776) :
    Calls Tryz.prog 209 #[vl] w fun e w' => (∃ v, e = .returned v ∧ Own byteK 5 w' w.heap.size (fun _ => False) v (numbers l)) ∧ Below w.heap.size w w' := by
  obtain ⟨A, c, rfl, h1, h2⟩ := hl.form
  cases l with
  | nil =>
    go_enter Tryz.func209, Tryz.ntmps209
    go_wp2
    go_ret
    exact ⟨⟨_, rfl, Own.nil _ _ _ _ _⟩, Below.refl _ _⟩
  | cons x xs =>
    obtain ⟨ad, rfl, l1, x0, x1, x2, x3⟩ := cell_at hl (i := 0) (by simp)
    simp only [List.getElem_cons_zero, Nat.zero_mul, add_zero_] at x0 x1 x2 x3
    obtain ⟨n, hxn⟩ : ∃ n, (x :: xs).length = n := ⟨_, rfl⟩
    have hn0 : (0 : Int) < (n : Int) := by rw [← hxn]; simp
    have e0 : ((n : Int) == 0) = false := beq_false_ (by omega)
    have e1 : (n == 0) = false := by rw [← hxn]; rfl
    have hn1 : (1 : Int) ≤ (n : Int) := by omega
    rw [hxn] at h1
    have hc1 : (n : Int) ≤ (c : Int) := by omega
    have hcm : n ≤ c := h1
    have hsl : ∀ W, (Instr.slice 92 (.slice (some ad) n c) (some (.int .i64 1)) none none).run Tryz.prog W = .ok (.slice (cutA (some ad) 1 c 2) (n - 1) (c - 1)) W := fun W => el_cut_l elemCell Tryz.underlying92 (some ad) n c 1 (by omega) W
    have htl : SL cellK w F (.slice (cutA (some ad) 1 c 2) (n - 1) (c - 1)) xs := by
      have := hl.cut (l := 1) (h := n) (m := c) (by omega) (by omega) hcm (Nat.le_refl _)
      rwa [show ((x :: xs).drop 1).take (n - 1) = xs by rw [List.drop_one, List.tail_cons, ← hxn]; simp] at this
    have hxl : xs.length ≤ 1099511627776 := by simp at hn; omega
    rw [hxn] at hn ⊢
    have hn0' : 0 < n := by omega
    clear hxn hcm
    obtain ⟨p, hp⟩ : ∃ p, cutA (some ad) 1 c 2 = p := ⟨_, rfl⟩
    obtain ⟨q, hq⟩ : ∃ q, n - 1 = q := ⟨_, rfl⟩
    obtain ⟨r, hr⟩ : ∃ r, c - 1 = r := ⟨_, rfl⟩
    rw [hp, hq, hr] at htl
    simp only [hp, hq, hr] at hsl
    clear hp hq hr
    obtain ⟨u, hu⟩ : ∃ u, x.num = u := ⟨_, rfl⟩
    have HU : Hid (numbers (x :: xs) = wireUint u ++ deltas u xs) := by show _ = _; rw [← hu]; rfl
    rw [hu] at x0 x2
    clear hu
    have WU := Lib.hid (fun W => wireUint_calls u W x2)
    have BH := Lib.hid (fun W v (b : Nat) (hbw : Below w.heap.size w W) (hbs : w.heap.size ≤ b) (hb2 : b ≤ W.heap.size) (ho : Own byteK 5 W b (fun _ => False) v (wireUint u)) => behind_calls (wireUint u) u xs v (.slice p q r) W b (fun k => F k ∧ k < w.heap.size) ho hb2 (htl.since hbw) x2 (fun k h => by omega) (by have := wireUint_len10 u; omega) hxl)
    clear htl hl
    go_enter Tryz.func209, Tryz.ntmps209
    go_wp2
    go_region_held3 (fun w' => w'.cell? ad = some (.int .u64 u))
      (first
        | exact x0
        | exact cell_bya hb1 (by assumption)
        | exact cell_lo hb2 l1 (by assumption))
      (first
        | (go_at_call 89; refine (WU.out _).mono ?_; rintro e w1 ⟨⟨v1, rfl, ho1⟩, hb1⟩)
        | (go_at_call 232; refine (BH.out _ _ _ (bel_trans (bel_drew (Below.refl _ _)) hb1) (Nat.le_refl _) hb1.size ho1).mono ?_; rintro e w2 ⟨⟨v2, rfl, ho2⟩, hb2⟩))
    go_wp2
    go_ret
    exact ⟨⟨_, rfl, by rw [HU.out]; exact ho2⟩, (bel_trans (bel_drew (Below.refl _ _)) hb1).trans hb2⟩
def bitAt (l : List Cell) (i : Nat) : Nat := match l[i]? with | some c => c.num.toNat | none => 0
def boolSum (l : List Cell) (j : Nat) : Nat → Nat
  | 0 => 0
  | k + 1 => boolSum l j k + bitAt l (8 * j + k) * 2 ^ k
/-- Eight bools' byte. -/
def boolByte (l : List Cell) (j : Nat) : Nat := boolSum l j 8
def boolBytes (l : List Cell) : List UInt8 := (List.range ((l.length + 7) / 8)).map fun j => UInt8.ofNat (boolByte l j)
theorem bitAt_take (l : List Cell) (k i : Nat) : bitAt (l.take k) i = if i < k then bitAt l i else 0 := by
  unfold bitAt
  by_cases h : i < k <;> simp [List.getElem?_take, h]
theorem boolSum_lt {l : List Cell} (h : ∀ c ∈ l, c.num ≤ 1) (j : Nat) : ∀ n, boolSum l j n < 2 ^ n
  | 0 => by simp [boolSum]
  | n + 1 => by
    have h1 := boolSum_lt h j n
    have h2 : bitAt l (8 * j + n) ≤ 1 := by
      unfold bitAt
      split
      · rename_i c hc
        have := h c (List.mem_of_getElem? hc)
        omega
      · omega
    have h3 : bitAt l (8 * j + n) * 2 ^ n ≤ 1 * 2 ^ n := Nat.mul_le_mul_right _ h2
    simp only [boolSum, Nat.pow_succ]
    omega
theorem boolSum_cut (l : List Cell) (j r : Nat) : ∀ n, boolSum (l.take (8 * j + r)) j n = boolSum l j (min n r)
  | 0 => by simp [boolSum]
  | n + 1 => by
    simp only [boolSum, boolSum_cut l j r n, bitAt_take]
    by_cases h : n < r
    · rw [if_pos (by omega), show min (n + 1) r = min n r + 1 by omega, show min n r = n by omega]
      rfl
    · rw [if_neg (by omega), show min (n + 1) r = min n r by omega]
      omega
theorem boolSum_low {l : List Cell} {j k : Nat} (h : 8 * j + 8 ≤ k) : ∀ n, n ≤ 8 → boolSum (l.take k) j n = boolSum l j n
  | 0, _ => rfl
  | n + 1, hn => by
    simp only [boolSum, boolSum_low h n (by omega), bitAt_take]
    rw [if_pos (by omega)]
theorem boolSum_high {l : List Cell} {j k : Nat} (h : k ≤ 8 * j) : ∀ n, boolSum (l.take k) j n = 0
  | 0 => rfl
  | n + 1 => by
    simp only [boolSum, boolSum_high h n, bitAt_take]
    rw [if_neg (by omega)]
    omega
theorem orPow : ∀ (r : Fin 8) (u : Fin 256) (n : Fin 2), u.val < 2 ^ r.val → bits .or .u8 (u.val : Int) ((n.val * 2 ^ r.val : Nat) : Int) = ((u.val + n.val * 2 ^ r.val : Nat) : Int) := by decide +kernel
theorem boolBytes_set (l : List Cell) (m k : Nat) (hk : k < l.length) (hm : (l.length + 7) / 8 = m) (h : ∀ c ∈ l, c.num ≤ 1) :
    (((List.range m).map fun j => UInt8.ofNat (boolByte (l.take k) j)).set (k / 8) (UInt8.ofNat (boolByte (l.take (k + 1)) (k / 8)))) = (List.range m).map fun j => UInt8.ofNat (boolByte (l.take (k + 1)) j) := by
  apply List.ext_getElem
  · simp
  · intro i h1 h2
    rw [List.getElem_set]
    split
    · rename_i e; subst e; simp
    · rename_i e
      simp only [List.getElem_map, List.getElem_range]
      unfold boolByte
      by_cases hi : i < k / 8
      · rw [boolSum_low (by omega) 8 (Nat.le_refl _), boolSum_low (by omega) 8 (Nat.le_refl _)]
      · rw [boolSum_high (by omega), boolSum_high (by omega)]
/-- The byte's step. -/
theorem boolByte_step {l : List Cell} {k : Nat} (hk : k < l.length) (h : ∀ c ∈ l, c.num ≤ 1) (h0 : 0 ≤ l[k].num) :
    bits .or .u8 (((UInt8.ofNat (boolByte (l.take k) (k / 8))).toNat : Nat) : Int) (l[k].num % 256 * 2 ^ (k % 8) % 256) = (((UInt8.ofNat (boolByte (l.take (k + 1)) (k / 8))).toNat : Nat) : Int) := by
  have hr : k % 8 < 8 := Nat.mod_lt _ (by omega)
  have e1 : boolByte (l.take k) (k / 8) = boolSum l (k / 8) (k % 8) := by
    unfold boolByte
    have := boolSum_cut l (k / 8) (k % 8) 8
    rw [show 8 * (k / 8) + k % 8 = k by omega, show min 8 (k % 8) = k % 8 by omega] at this
    exact this
  have e2 : boolByte (l.take (k + 1)) (k / 8) = boolSum l (k / 8) (k % 8) + l[k].num.toNat * 2 ^ (k % 8) := by
    unfold boolByte
    have := boolSum_cut l (k / 8) (k % 8 + 1) 8
    rw [show 8 * (k / 8) + (k % 8 + 1) = k + 1 by omega, show min 8 (k % 8 + 1) = k % 8 + 1 by omega] at this
    rw [this]
    simp only [boolSum, show 8 * (k / 8) + k % 8 = k by omega]
    have : bitAt l k = l[k].num.toNat := by unfold bitAt; rw [List.getElem?_eq_getElem hk]
    rw [this]
  have hlt := boolSum_lt h (k / 8) (k % 8)
  have hn : l[k].num ≤ 1 := h _ (List.getElem_mem hk)
  rw [e1, e2]
  generalize boolSum l (k / 8) (k % 8) = u at *
  generalize l[k].num = x at *
  generalize k % 8 = r at *
  obtain ⟨n, rfl⟩ := Int.eq_ofNat_of_zero_le h0
  have hp : 2 ^ r ≤ 128 := Nat.pow_le_pow_right (n := 2) (by omega) (show r ≤ 7 by omega)
  have hn2 : n < 2 := by omega
  have hnp : n * 2 ^ r ≤ 1 * 2 ^ r := Nat.mul_le_mul_right _ (by omega)
  have hx := orPow ⟨r, hr⟩ ⟨u, by omega⟩ ⟨n, hn2⟩ hlt
  simp only at hx
  have c1 : (UInt8.ofNat u).toNat = u := by simp; omega
  have c2 : (UInt8.ofNat (u + (n : Int).toNat * 2 ^ r)).toNat = u + n * 2 ^ r := by
    simp only [Int.toNat_natCast, UInt8.toNat_ofNat']
    have : u + n * 2 ^ r < 256 := by
      have : u + n * 2 ^ r < 2 ^ r + 2 ^ r := by omega
      omega
    omega
  rw [c1, c2, ← hx]
  congr 1
  have e3 : ((n : Int) % 256 * 2 ^ r % 256) = ((n % 256 * 2 ^ r % 256 : Nat) : Int) := by simp only [Int.natCast_emod, Int.natCast_mul, Int.natCast_pow]; rfl
  rw [e3]
  have : n % 256 * 2 ^ r % 256 = n * 2 ^ r := by
    rw [Nat.mod_eq_of_lt (show n < 256 by omega), Nat.mod_eq_of_lt (by omega)]
  rw [this]
set_option maxRecDepth 100000 in
set_option maxHeartbeats 1000000 in
theorem writeBools_calls (l : List Cell) (vl : Value) (w : World) (F : Nat → Prop) (hl : SL cellK w F vl l) (hn : l.length ≤ 65536) (hb01 : ∀ c ∈ l, c.num ≤ 1) :
    Calls Tryz.prog 213 #[vl] w fun e w' => (∃ v, e = .returned v ∧ Own byteK 5 w' w.heap.size (fun _ => False) v (boolBytes l)) ∧ Below w.heap.size w w' := by
  obtain ⟨A, c, rfl, h1, h2⟩ := hl.form
  obtain ⟨m, hm⟩ : ∃ m, (l.length + 7) / 8 = m := ⟨_, rfl⟩
  have hm' : ((l.length : Int) + 7) / 8 = (m : Int) := by omega
  obtain ⟨wm, hm1, hm2, hm3⟩ := makeBytes m w (by omega)
  have HM := Lib.hid hm
  clear hm
  have hln : (l.length : Int) ≤ 65536 := by omega
  go_enter Tryz.func213, Tryz.ntmps213
  go_wp2
  clear hm'
  go_loopw [4, 13] (fun v4 vi wr => ∃ k : Nat, k ≤ l.length ∧ vi = .int .i64 k ∧ Own byteK 5 wr w.heap.size (fun _ => False) (.slice (some ⟨w.heap.size, 0, none⟩) m m) ((List.range m).map fun j => UInt8.ofNat (boolByte (l.take k) j)) ∧ Below w.heap.size w wr) (fun _ vi _ => l.length - (intOf vi).toNat)
  case atStart => exact ⟨0, by omega, by simp, by
    have e : (List.range m).map (fun j => UInt8.ofNat (boolByte (l.take 0) j)) = zerosB m := by
      unfold zerosB
      apply List.ext_getElem
      · simp
      · intro i _ _
        simp only [List.getElem_map, List.getElem_range, List.getElem_replicate]
        unfold boolByte
        rw [boolSum_high (by omega)]
        rfl
    rw [e]; exact hm2, hm3⟩
  case round =>
    obtain ⟨k, hk, rfl, hO, hbr⟩ := hrel
    by_cases hlt : k < l.length
    · obtain ⟨ad, rfl, l1, x0, x1, x2, x3⟩ := cell_at (hl.below hbr) hlt
      have k0 : (k : Int) < l.length := by omega
      obtain ⟨nm, hnm⟩ : ∃ x, l[k].num = x := ⟨_, rfl⟩
      rw [hnm] at x0 x2
      obtain ⟨j, hj⟩ : ∃ j, k / 8 = j := ⟨_, rfl⟩
      have hj' : (k : Int) / 8 = (j : Int) := by omega
      obtain ⟨r, hr⟩ : ∃ r, k % 8 = r := ⟨_, rfl⟩
      have hr' : (k : Int) % 8 = (r : Int) := by omega
      have hjm : j < m := by have := HM.out; omega
      have hjm' : (j : Int) < m := by omega
      have hr8 : (r : Int) < 8 := by omega
      obtain ⟨ad2, had2, _, y0⟩ := byte_at hO.sl (i := j) (by simpa using hjm)
      obtain rfl := Option.some.inj had2
      obtain ⟨u, hu⟩ : ∃ u : Int, ((((List.range m).map fun j => UInt8.ofNat (boolByte (l.take k) j)).getD j 0).toNat : Int) = u := ⟨_, rfl⟩
      have y0' : wr.cell? ⟨w.heap.size, j, none⟩ = some (.int .u8 u) := by rw [← hu, ← y0]; unfold Addr.add; split <;> simp_all
      have y1 := cell_al y0' (.cells #[.int .u64 nm, .string l[k].text] 90)
      have hf := hO.frozen
      have hwz := hbr.size
      have hnw : w.heap.size < wr.heap.size := World.block_lt_of_cell? wr _ y0'
      have HO := Lib.hid hO
      have HH := Lib.hid (And.intro hnm (And.intro hj (And.intro hr hu)))
      have h0nm := Lib.hid x2.1
      have mx := mixed
      clear hO hnm hj hr hu y0
      go_wp2
      go_big_region_o
      go_wp2
      go_roundw
      case rel =>
        refine ⟨k + 1, by omega, by go_num, ?_, bel_drew (bel_alloc (bel_set hbr (p := ⟨w.heap.size, j, none⟩) (Nat.le_refl _) _) _)⟩
        have hbs := boolByte_step hlt hb01 (by rw [HH.out.1]; exact h0nm.out)
        have hset := boolBytes_set l m k hlt HM.out hb01
        rw [HH.out.1, HH.out.2.1, HH.out.2.2.1] at hbs
        rw [HH.out.2.1] at hset
        have hu := HH.out.2.2.2
        rw [show (((List.range m).map fun j => UInt8.ofNat (boolByte (l.take k) j)).getD j 0) = UInt8.ofNat (boolByte (l.take k) j) by simp [List.getD_eq_getElem?_getD, hjm]] at hu
        rw [hu] at hbs
        rw [hbs]
        have := HO.out.setByte (k := j) (UInt8.ofNat (boolByte (l.take (k + 1)) j))
        rw [hset] at this
        exact (this.al _).drew
      case measure => simp [intOf]; omega
    · have hk' : k = l.length := by omega
      have HO := Lib.hid hO
      have HK := Lib.hid hk'
      clear hO hk'
      go_wp2
      go_ret
      refine ⟨⟨_, rfl, ?_⟩, hbr⟩
      have h1 := HO.out
      rw [HK.out, List.take_length] at h1
      unfold boolBytes
      rw [HM.out]
      exact h1
end Go.Proofs.YtlhdndnohmikeaaGreatDoor
