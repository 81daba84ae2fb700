/-
  Walks: cells of one kind, written: texts; all kinds.
-/
import Derived.Test.YtlhdndnohmikeaaGreatDoorW35
import Derived.Test.YtlhdndnohmikeaaGreatDoorW2
import Derived.Lib.IndexBytes
import Derived.Laws.EntriesVeiled
set_option linter.unusedVariables false
set_option linter.unusedSimpArgs false
namespace Go.Proofs.YtlhdndnohmikeaaGreatDoor
open Go.RowKit

/-- How many bytes two texts begin with alike. -/
def shared : List UInt8 → List UInt8 → Nat
  | x :: xs, y :: ys => if x = y then shared xs ys + 1 else 0
  | _, _ => 0
theorem shared_le : ∀ a b : List UInt8, shared a b ≤ a.length ∧ shared a b ≤ b.length
  | [], _ => by simp [shared]
  | _ :: _, [] => by simp [shared]
  | x :: xs, y :: ys => by
    simp only [shared]
    split
    · have := shared_le xs ys; simp; omega
    · simp
theorem shared_of : ∀ (a b : List UInt8) (k : Nat), k ≤ a.length → k ≤ b.length → a.take k = b.take k → (∀ x y, a[k]? = some x → b[k]? = some y → x ≠ y) → shared a b = k
  | [], _, 0, _, _, _, _ => by simp [shared]
  | [], _, k + 1, h, _, _, _ => by simp at h
  | _ :: _, [], 0, _, _, _, _ => by simp [shared]
  | _ :: _, [], k + 1, _, h, _, _ => by simp at h
  | x :: xs, y :: ys, 0, _, _, _, h => by
    have := h x y rfl rfl
    simp [shared, this]
  | x :: xs, y :: ys, k + 1, h1, h2, h3, h4 => by
    simp only [List.take_succ_cons, List.cons.injEq] at h3
    rw [shared, if_pos h3.1, shared_of xs ys k (by simpa using h1) (by simpa using h2) h3.2 (by simpa using h4)]
set_option maxRecDepth 100000 in
set_option maxHeartbeats 1000000 in
theorem shared_calls (a b : ByteArray) (w : World) (ha : a.size ≤ maxLen) (hb : b.size ≤ maxLen) :
    Calls Tryz.prog 231 #[.string a, .string b] w fun e w' => e = .returned (.int .i64 (shared (strBytes a) (strBytes b) : Nat)) ∧ Below w.heap.size w w' := by
  unfold maxLen at ha hb
  go_enter Tryz.func231, Tryz.ntmps231
  go_wp2
  go_loopw [5] (fun vn wr => ∃ k : Nat, k ≤ a.size ∧ k ≤ b.size ∧ vn = .int .i64 k ∧ (strBytes a).take k = (strBytes b).take k ∧ Below w.heap.size w wr) (fun vn _ => a.size - (intOf vn).toNat)
  case atStart => exact ⟨0, by omega, by omega, by simp, by simp, Below.refl _ _⟩
  case round =>
    obtain ⟨k, hka, hkb, rfl, heq, hbr⟩ := hrel
    by_cases hlt : k < a.size ∧ k < b.size
    · obtain ⟨hla, hlb⟩ := hlt
      have k1 : (k : Int) < a.size := by omega
      have k2 : (k : Int) < b.size := by omega
      have hd : decide ((k : Int) < min ↑a.size ↑b.size) = true := decide_eq_true (by omega)
      have HE := Lib.hid heq
      clear heq
      have ga : (strBytes a)[k]? = some a[k] := by unfold strBytes; rw [Array.getElem?_toList, Array.getElem?_eq_getElem hla]; rfl
      have gb : (strBytes b)[k]? = some b[k] := by unfold strBytes; rw [Array.getElem?_toList, Array.getElem?_eq_getElem hlb]; rfl
      by_cases he : a[k] = b[k]
      · have e1 : ((a[k].toNat : Int) == (b[k].toNat : Int)) = true := by rw [he]; simp
        have HN : Hid ((strBytes a).take (k + 1) = (strBytes b).take (k + 1)) := by
          show _ = _
          rw [List.take_add_one, List.take_add_one, HE.out, ga, gb, he]
        clear he ga gb
        go_wp2
        go_quiet (fail)
        go_wp2
        go_roundw
        case rel => exact ⟨k + 1, by omega, by omega, by go_num, HN.out, bel_drewN hbr _⟩
        case measure => simp [intOf]; omega
      · have e1 : ((a[k].toNat : Int) == (b[k].toNat : Int)) = false := by
          rw [beq_eq_false_iff_ne]
          intro h
          exact he (UInt8.toNat_inj.1 (by omega))
        have HN : Hid (shared (strBytes a) (strBytes b) = k) := shared_of _ _ k (by rw [strBytes_len]; omega) (by rw [strBytes_len]; omega) HE.out fun x y hx hy => by
          rw [ga] at hx
          rw [gb] at hy
          injection hx with hx
          injection hy with hy
          rw [← hx, ← hy]
          exact he
        clear he ga gb
        go_wp2
        go_quiet (fail)
        go_wp2
        go_ret
        exact ⟨ret_int (by rw [HN.out]), bel_drewN hbr _⟩
    · have hd : decide ((k : Int) < min ↑a.size ↑b.size) = false := decide_eq_false (by omega)
      have HN : Hid (shared (strBytes a) (strBytes b) = k) := shared_of _ _ k (by rw [strBytes_len]; omega) (by rw [strBytes_len]; omega) heq fun x y hx hy => by
        have h1 := (List.getElem?_eq_some_iff.1 hx).1
        have h2 := (List.getElem?_eq_some_iff.1 hy).1
        rw [strBytes_len] at h1 h2
        exact absurd ⟨h1, h2⟩ hlt
      clear heq
      go_wp2
      go_quiet (fail)
      go_wp2
      go_ret
      exact ⟨ret_int (by rw [HN.out]), bel_drewN hbr _⟩
theorem strBytes_extract (s : ByteArray) (k : Nat) : strBytes (s.extract k s.size) = (strBytes s).drop k := Lib.extract_to_end s k
/-- Texts: how much of the last one goes on, and the rest. -/
def texts (last : ByteArray) : List Cell → List UInt8
  | [] => []
  | c :: cs => wireUint (shared (strBytes last) (strBytes c.text) : Nat) ++ wireBytes ((strBytes c.text).drop (shared (strBytes last) (strBytes c.text))) ++ texts c.text cs
def lastText (last : ByteArray) : List Cell → ByteArray
  | [] => last
  | c :: cs => lastText c.text cs
theorem texts_snoc : ∀ (l : List Cell) (last : ByteArray) (c : Cell), texts last (l ++ [c]) = texts last l ++ wireUint (shared (strBytes (lastText last l)) (strBytes c.text) : Nat) ++ wireBytes ((strBytes c.text).drop (shared (strBytes (lastText last l)) (strBytes c.text)))
  | [], last, c => by simp [texts, lastText]
  | x :: l, last, c => by simp [texts, lastText, texts_snoc l]
theorem lastText_snoc : ∀ (l : List Cell) (last : ByteArray) (c : Cell), lastText last (l ++ [c]) = c.text
  | [], _, _ => rfl
  | x :: l, _, c => by simp [lastText, lastText_snoc l]
theorem texts_len : ∀ (l : List Cell) (last : ByteArray), (∀ c ∈ l, c.text.size ≤ 256) → (texts last l).length ≤ 276 * l.length
  | [], _, _ => by simp [texts]
  | c :: l, last, h => by
    have h1 := texts_len l c.text fun x hx => h x (by simp [hx])
    have h2 := wireUint_len10 (shared (strBytes last) (strBytes c.text) : Nat)
    have h3 := wireUint_len10 (((strBytes c.text).drop (shared (strBytes last) (strBytes c.text))).length : Nat)
    have h4 := h c (by simp)
    have h5 : ((strBytes c.text).drop (shared (strBytes last) (strBytes c.text))).length ≤ 256 := by rw [List.length_drop, strBytes_len]; omega
    simp only [texts, wireBytes, List.length_append, List.length_cons]
    omega
theorem lastText_le : ∀ (l : List Cell) (last : ByteArray), last.size ≤ 256 → (∀ c ∈ l, c.text.size ≤ 256) → (lastText last l).size ≤ 256
  | [], _, h, _ => h
  | c :: l, _, _, h => lastText_le l c.text (h c (by simp)) fun x hx => h x (by simp [hx])
def emptyS : ByteArray := ⟨#[]⟩
set_option maxRecDepth 100000 in
set_option maxHeartbeats 2000000 in
theorem writeTexts_calls (l : List Cell) (vl : Value) (w : World) (F : Nat → Prop) (hl : SL cellK w F vl l) (hn : l.length ≤ 65536) (h256 : ∀ c ∈ l, c.text.size ≤ 256) :
    Calls Tryz.prog 205 #[vl] w fun e w' => (∃ v, e = .returned v ∧ Own byteK 5 w' w.heap.size (fun _ => False) v (texts emptyS l)) ∧ Below w.heap.size w w' := by
  obtain ⟨A, c, rfl, _, _⟩ := hl.form
  have H256 := Lib.hid h256
  have SH := Lib.hid (fun a b W ha hb => shared_calls a b W ha hb)
  have WU := Lib.hid (fun x W hx => wireUint_calls x W hx)
  have WB := Lib.hid (fun bs v W F hv hn => wireBytes_calls bs v W F hv hn)
  have HCAP := Lib.hid (fun (m : Nat) (hx : m ≤ maxLen) (W : World) => (⟨grownCap_ge _ _ _ _, grownCap_le_maxLen _ _ _ _ hx⟩ : m ≤ grownCap W m 0 5 ∧ grownCap W m 0 5 ≤ maxLen))
  have hcv := fun w s => run_bytes_of_string (P := Tryz.prog) w 9 36 5 s Tryz.underlying9 Tryz.underlying36 Tryz.underlying5
  clear h256
  go_enter Tryz.func205, Tryz.ntmps205
  go_wp2
  go_loopw [3, 4, 10] (fun vo vt vi wr => ∃ k : Nat, k ≤ l.length ∧ vi = .int .i64 k ∧ vt = .string (lastText emptyS (l.take k)) ∧ Own byteK 5 wr w.heap.size (fun _ => False) vo (texts emptyS (l.take k)) ∧ Below w.heap.size w wr) (fun _ _ vi _ => l.length - (intOf vi).toNat)
  case atStart => exact ⟨0, by omega, by simp, by simp [lastText, emptyS], by simpa [texts] using Own.nil _ _ _ _ _, Below.refl _ _⟩
  case round =>
    obtain ⟨k, hk, rfl, rfl, hO, hbr⟩ := hrel
    by_cases hlt : k < l.length
    · obtain ⟨ad, rfl, l1, x0, x1, x2, x3⟩ := cell_at (hl.below hbr) hlt
      have k0 : (k : Int) < l.length := by omega
      have hlk := texts_len (l.take k) emptyS (fun c hc => H256.out c (List.mem_of_mem_take hc))
      have hlt256 := lastText_le (l.take k) emptyS (by decide) (fun c hc => H256.out c (List.mem_of_mem_take hc))
      have h256k := H256.out l[k] (List.getElem_mem hlt)
      rw [List.length_take] at hlk
      obtain ⟨t, ht⟩ : ∃ x, l[k].text = x := ⟨_, rfl⟩
      obtain ⟨p, hp⟩ : ∃ x, lastText emptyS (l.take k) = x := ⟨_, rfl⟩
      obtain ⟨n, hnn⟩ : ∃ n, shared (strBytes p) (strBytes t) = n := ⟨_, rfl⟩
      have hsn : texts emptyS (l.take (k + 1)) = texts emptyS (l.take k) ++ wireUint (n : Nat) ++ wireBytes ((strBytes t).drop n) := by rw [List.take_succ_eq_append_getElem hlt, texts_snoc, hp, ht, hnn]
      have hls : lastText emptyS (l.take (k + 1)) = t := by rw [List.take_succ_eq_append_getElem hlt, lastText_snoc, ht]
      have hnt : n ≤ t.size := by have := (shared_le (strBytes p) (strBytes t)).2; rw [strBytes_len] at this; omega
      rw [hp] at hlt256 ⊢
      rw [ht] at x1 h256k
      generalize texts emptyS (l.take k) = ac at *
      have HS := Lib.hid (And.intro hsn hls)
      have SHx := Lib.hid (fun W => SH.out p t W (by unfold maxLen; omega) (by unfold maxLen; omega))
      rw [hnn] at SHx
      have hac : ac.length ≤ 276 * 65536 := by omega
      have hu1 := wireUint_len10 (n : Nat)
      have hdn : ((strBytes t).drop n).length ≤ 256 := by rw [List.length_drop, strBytes_len]; omega
      have hwb : (wireBytes ((strBytes t).drop n)).length ≤ 266 := by unfold wireBytes; rw [List.length_append]; have := wireUint_len10 (((strBytes t).drop n).length : Nat); omega
      have hex := strBytes_extract t n
      have hexs : (t.extract n t.size).size ≤ 256 := by rw [← strBytes_len, hex]; exact hdn
      have HEX := Lib.hid hex
      have hnt' : (n : Int) ≤ t.size := by omega
      clear hsn hls hlk hp ht hnn hex
      have hexm : (t.extract n t.size).size = t.size - n := by rw [← strBytes_len, HEX.out, List.length_drop, strBytes_len]
      have HEXM := Lib.hid hexm
      have HC := Lib.hid (HCAP.out (t.size - n) (by unfold maxLen; omega))
      clear hexm hexs
      go_wp2_with (first
        | (go_at_call 231; refine (SHx.out _).mono ?_; rintro e w1 ⟨rfl, hb1⟩)
        | (go_at_call 89; refine (WU.out _ _ ⟨by omega, by omega⟩).mono ?_; rintro e w2 ⟨⟨v2, rfl, ho2⟩, hb2⟩; obtain ⟨A2, c2, rfl, _, _⟩ := ho2.sl.form; have bw2 : Below wr.heap.size wr w2 := bel_trans (bel_trans (bel_alloc (Below.refl _ _) _) hb1) hb2; have hO2 := hO.below bw2; have hs2 := ho2.sl; have q2 : w2.cell? ⟨wr.heap.size, 1, none⟩ = some (.string t) := cell_by hb2 (cell_by hb1 (by simp)); have hz2' : wr.heap.size < w2.heap.size := World.block_lt_of_cell? w2 _ q2; have hz2 := bw2.size; have hzr := hbr.size)
        | (go_at_call 116; go_loud (refine (WB.out (strBytes (t.extract n t.size)) _ _ (fun k => w3.heap.size ≤ k) ?hs4 ?hn4).mono ?_; (case hs4 => exact (strBm _ _ _ _ _ _ _ _ HEXM.out (HC.out _).1 (HC.out _).2 rfl (Nat.le_refl _)).drew); (case hn4 => (rw [strBytes_len, HEXM.out]; omega)); rintro e w4 ⟨⟨v4, rfl, ho4⟩, hb4⟩; obtain ⟨A4, c4, rfl, _, _⟩ := ho4.sl.form; have bw4 : Below w3.heap.size w3 w4 := bel_trans (bel_drew (bel_alloc (Below.refl _ _) _)) hb4; have hO4 := ho3.below bw4; have hs4 := ho4.sl; have q4 := cell_by bw4 q3; have hz4 := bw4.size))
        | (at_builtin; refine wpList_append_sl byteK elemByte rfl _ _ 36 rfl Tryz.underlying36 rfl hO4 rfl hs4 flatF flatF ?_ ?_ ?_ ?_; go_loud ((unfold maxLen; rw [HEX.out, List.length_append]; omega); (rw [HEX.out, List.length_append]; omega); omega; rintro v5 w5 ⟨ho5, hg5, ha5⟩; have bw5 := bel_grown (bel_trans hbw3 bw4) hg5 (fun k hk => (hO4.lt k hk).1); have q5 := cell_grown hg5 (row_ne ha3 (fun k hk => by have := (hO.lt k hk).2; omega) (by omega)) q4))
        | (at_builtin; refine wpList_append_sl byteK elemByte rfl _ _ 36 rfl Tryz.underlying36 rfl hO2 rfl hs2 flatF flatF ?_ ?_ ?_ ?_; (unfold maxLen; omega); omega; omega; rintro v3 w3 ⟨ho3, hg3, ha3⟩; have hbw3 := bel_grown (bel_trans hbr bw2) hg3 (fun k hk => (hO2.lt k hk).1); have q3 := cell_grown hg3 (row_ne' (fun k hk => (hO.lt k hk).2)) q2; have hz3 := hg3.size))
      go_roundw
      case rel => exact ⟨k + 1, by omega, by go_num, by rw [HS.out.2], by rw [HS.out.1, ← HEX.out]; exact own_flat ho5, bw5⟩
      case measure => simp [intOf]; omega
    · have hk' : k = l.length := by omega
      have HO := Lib.hid hO
      have HK := Lib.hid hk'
      clear hO hk'
      go_wp2
      go_ret
      refine ⟨⟨_, rfl, ?_⟩, hbr⟩
      have h1 := HO.out
      rw [HK.out, List.take_length] at h1
      exact h1

/-- How each kind is written and taken. -/
def fv (f : FuncId) : Value := .func (.func f) #[] #[]
def kindsV : Value := .agg #[fv 211, fv 212, fv 209, fv 210, fv 213, fv 214, fv 205, fv 206, fv 205, fv 208, fv 209, fv 210]
theorem kinds_calls (w : World) : Calls Tryz.prog 173 #[] w fun e w' => e = .returned kindsV ∧ Below w.heap.size w w' := by
  go_enter Tryz.func173, Tryz.ntmps173
  go_wp2
  exact bodyPost_ret (v := kindsV) (by simp [results, Tryz.results173, go_sem, kindsV, fv]) rfl ⟨rfl, bel_alloc (bel_alloc (bel_alloc (bel_alloc (Below.refl _ _) _) _) _) _⟩
def wfOf (k : Int) : FuncId := if k = 0 then 211 else if k = 2 then 213 else if k = 3 ∨ k = 4 then 205 else 209
def tfOf (k : Int) : FuncId := if k = 0 then 212 else if k = 2 then 214 else if k = 3 then 206 else if k = 4 then 208 else 210
theorem six {k : Int} (h0 : 0 ≤ k) (h6 : k < 6) : k = 0 ∨ k = 1 ∨ k = 2 ∨ k = 3 ∨ k = 4 ∨ k = 5 := by omega
theorem kinds_index {k : Int} (h0 : 0 ≤ k) (h6 : k < 6) (W : World) : (Instr.index 256 kindsV (.int .i64 k)).run Tryz.prog W = .ok (.agg #[.func (.func (wfOf k)) #[] #[], .func (.func (tfOf k)) #[] #[]]) W := by
  rcases six h0 h6 with rfl | rfl | rfl | rfl | rfl | rfl <;> kernel_rfl
theorem kind_field (f g : FuncId) (W : World) : (Instr.field 255 (.agg #[.func (.func f) #[] #[], .func (.func g) #[] #[]]) 0).run Tryz.prog W = .ok (.func (.func f) #[] #[]) W := by kernel_rfl
theorem kind_field1 (f g : FuncId) (W : World) : (Instr.field 255 (.agg #[.func (.func f) #[] #[], .func (.func g) #[] #[]]) 1).run Tryz.prog W = .ok (.func (.func g) #[] #[]) W := by kernel_rfl
theorem writer_enter {k : Int} (h0 : 0 ≤ k) (h6 : k < 6) (args : Array Value) (W : World) : (callFunc (wfOf k) args).run Tryz.prog W = .ok (.enter (wfOf k) args) W := by
  rcases six h0 h6 with rfl | rfl | rfl | rfl | rfl | rfl <;> kernel_rfl
theorem colKindly_calls (k : Int) (w : World) (h0 : 0 ≤ k) (h6 : k < 6) : Calls Tryz.prog 172 #[.int .i64 k] w fun e w' => e = .returned (.bool true) ∧ Below w.heap.size w w' := by
  have KC := Lib.hid (fun W => kinds_calls W)
  go_enter Tryz.func172, Tryz.ntmps172
  go_wp2_with (go_at_call 173; refine (KC.out _).mono ?_; rintro e w1 ⟨rfl, hb1⟩)
  go_ret
  exact ⟨rfl, hb1⟩
/-- The bytes of cells of a kind. -/
def columnBytes (k : Int) (l : List Cell) : List UInt8 := if k = 0 then deltas 0 l else if k = 2 then boolBytes l else if k = 3 ∨ k = 4 then texts emptyS l else numbers l
def ColOK (k : Int) (l : List Cell) : Prop := ∀ c ∈ l, cellCheck k c = 0
theorem colOK_text {k : Int} {l : List Cell} (h : ColOK k l) : ∀ c ∈ l, c.text.size ≤ 256 := fun c hc => by
  have := h c hc
  unfold cellCheck at this
  repeat' split at this
  all_goals omega
theorem colOK_bool {l : List Cell} (h : ColOK 2 l) : ∀ c ∈ l, c.num ≤ 1 := fun c hc => by
  have := h c hc
  unfold cellCheck at this
  simp only [show kindB 2 = true by rfl, show textB 2 = false by rfl] at this
  refine Decidable.byContradiction fun hn => ?_
  have e : decide (1 < c.num) = true := decide_eq_true (by omega)
  simp [e] at this
theorem writer_calls (k : Int) (l : List Cell) (vl : Value) (w : World) (F : Nat → Prop) (h0 : 0 ≤ k) (h6 : k < 6) (hl : SL cellK w F vl l) (hn : l.length ≤ 65536) (hok : ColOK k l) :
    Calls Tryz.prog (wfOf k) #[vl] w fun e w' => (∃ v, e = .returned v ∧ Own byteK 5 w' w.heap.size (fun _ => False) v (columnBytes k l)) ∧ Below w.heap.size w w' := by
  rcases six h0 h6 with rfl | rfl | rfl | rfl | rfl | rfl
  · exact writeSigned_calls l vl w F hl (by omega)
  · exact writeNumbers_calls l vl w F hl (by omega)
  · exact writeBools_calls l vl w F hl hn (colOK_bool hok)
  · exact writeTexts_calls l vl w F hl hn (colOK_text hok)
  · exact writeTexts_calls l vl w F hl hn (colOK_text hok)
  · exact writeNumbers_calls l vl w F hl (by omega)
set_option maxRecDepth 100000 in
set_option maxHeartbeats 2000000 in
theorem columnWrite_calls (k : Int) (l : List Cell) (vl : Value) (w : World) (F : Nat → Prop) (hG : Glob w) (h0 : 0 ≤ k) (h6 : k < 6) (hl : SL cellK w F vl l) (hn : l.length ≤ 65536) (hok : ColOK k l) :
    Calls Tryz.prog 143 #[.int .i64 k, vl] w fun e w' => (∃ v, e = .returned (.tuple #[v, .int .i64 0]) ∧ Own byteK 5 w' w.heap.size (fun _ => False) v (columnBytes k l)) ∧ Below w.heap.size w w' := by
  obtain ⟨A, c, rfl, _, _⟩ := hl.form
  have KC := Lib.hid (fun W => kinds_calls W)
  have KD := Lib.hid (fun W => colKindly_calls k W h0 h6)
  have CC := Lib.hid (fun W (h : Below w.heap.size w W) c' (hc : c' ∈ l) => hok c' hc ▸ cellCheck_calls k c' W (hG.below h) (by have := colOK_text hok c' hc; unfold maxLen; omega))
  have WR := Lib.hid (fun W (h : Below w.heap.size w W) => writer_calls k l _ W _ h0 h6 (hl.below h) hn hok)
  have hki := fun W => kinds_index h0 h6 W
  have hkf := kind_field
  have hwe := fun args W => writer_enter h0 h6 args W
  generalize kindsV = kv at *
  generalize wfOf k = wf at *
  go_enter Tryz.func143, Tryz.ntmps143
  go_wp2_with (first
    | (go_at_call 172; refine (KD.out _).mono ?_; rintro e w1 ⟨rfl, hb1⟩))
  go_loopw [14] (fun vi wr => ∃ i : Nat, i ≤ l.length ∧ vi = .int .i64 i ∧ Below w.heap.size w wr) (fun vi _ => l.length - (intOf vi).toNat)
  case atStart => exact ⟨0, by omega, by simp, hb1⟩
  case round =>
    obtain ⟨i, hi, rfl, hbr⟩ := hrel
    by_cases hlt : i < l.length
    · obtain ⟨ad, rfl, l1, x0, x1, x2, x3⟩ := cell_at (hl.below hbr) hlt
      have k0 : (i : Int) < l.length := by omega
      have CCx := Lib.hid (fun W h => CC.out W h l[i] (List.getElem_mem hlt))
      generalize l[i] = ci at *
      go_wp2_with (go_at_call 119; refine (CCx.out _ (bel_alloc hbr _)).mono ?_; rintro e w2 ⟨rfl, hb2⟩)
      go_roundw
      case rel => exact ⟨i + 1, by omega, by go_num, bel_trans (bel_alloc hbr _) hb2⟩
      case measure => simp [intOf]; omega
    · go_wp2_with (go_at_call 173; refine (KC.out _).mono ?_; rintro e w3 ⟨rfl, hb3⟩)
      refine (WR.out _ (bel_trans hbr hb3)).mono ?_
      rintro e w4 ⟨⟨v4, rfl, ho4⟩, hb4⟩
      go_wp2
      have hz := bel_trans hbr hb3
      exact bodyPost_ret (results_tmp2 rfl _ _ _) rfl ⟨⟨_, rfl, ho4.lower hz.size⟩, bel_trans hz hb4⟩
end Go.Proofs.YtlhdndnohmikeaaGreatDoor
