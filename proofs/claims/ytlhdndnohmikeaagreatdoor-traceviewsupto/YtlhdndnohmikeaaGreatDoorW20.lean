/-
  Plain: the order of rows.
-/
import Derived.Test.YtlhdndnohmikeaaGreatDoorMW18
import Derived.Laws.Bits64
set_option linter.unusedVariables false
set_option linter.unusedSimpArgs false
namespace Go.Proofs.YtlhdndnohmikeaaGreatDoor
open Go.RowKit

/-- A three-way order on the elements of P. -/
structure Ord3 {α : Type} (P : α → Prop) (f : α → α → Int) : Prop where
  anti : ∀ x y, P x → P y → (f x y < 0 ↔ 0 < f y x)
  tr : ∀ x y z, P x → P y → P z → f x y ≤ 0 → f y z ≤ 0 → f x z ≤ 0
section
variable {α β : Type} {P Q : α → Prop} {f g : α → α → Int}
theorem Ord3.refl (h : Ord3 P f) (x : α) (hx : P x) : f x x = 0 := by have := h.anti x x hx hx; omega
theorem Ord3.symm (h : Ord3 P f) {x y : α} (hx : P x) (hy : P y) (h0 : f x y = 0) : f y x = 0 := by
  have a := h.anti x y hx hy
  have b := h.anti y x hy hx
  omega
theorem Ord3.lt_le (h : Ord3 P f) {x y z : α} (hx : P x) (hy : P y) (hz : P z) (h1 : f x y < 0) (h2 : f y z ≤ 0) : f x z < 0 := by
  refine Decidable.byContradiction fun hn => ?_
  have a := h.anti z x hz hx
  have b := h.anti x z hx hz
  have hzx : f z x ≤ 0 := by omega
  have := h.tr y z x hy hz hx h2 hzx
  have c := h.anti x y hx hy
  omega
theorem Ord3.le_lt (h : Ord3 P f) {x y z : α} (hx : P x) (hy : P y) (hz : P z) (h1 : f x y ≤ 0) (h2 : f y z < 0) : f x z < 0 := by
  refine Decidable.byContradiction fun hn => ?_
  have a := h.anti z x hz hx
  have b := h.anti x z hx hz
  have hzx : f z x ≤ 0 := by omega
  have := h.tr z x y hz hx hy hzx h1
  have c := h.anti y z hy hz
  omega
theorem Ord3.mono (h : Ord3 Q f) (hp : ∀ x, P x → Q x) : Ord3 P f := ⟨fun x y hx hy => h.anti x y (hp x hx) (hp y hy), fun x y z hx hy hz => h.tr x y z (hp x hx) (hp y hy) (hp z hz)⟩
theorem Ord3.congr (h : Ord3 P f) (he : ∀ x y, P x → P y → g x y = f x y) : Ord3 P g :=
  ⟨fun x y hx hy => by rw [he x y hx hy, he y x hy hx]; exact h.anti x y hx hy, fun x y z hx hy hz => by rw [he x y hx hy, he y z hy hz, he x z hx hz]; exact h.tr x y z hx hy hz⟩
theorem Ord3.comap (h : Ord3 P f) (p : β → α) : Ord3 (fun x => P (p x)) (fun x y => f (p x) (p y)) := ⟨fun x y hx hy => h.anti _ _ hx hy, fun x y z hx hy hz => h.tr _ _ _ hx hy hz⟩
theorem Ord3.lex (h : Ord3 P f) (k : Ord3 P g) : Ord3 P (fun x y => if f x y ≠ 0 then f x y else g x y) := by
  refine ⟨fun x y hx hy => ?_, fun x y z hx hy hz => ?_⟩
  · have a := h.anti x y hx hy
    have b := h.anti y x hy hx
    have c := k.anti x y hx hy
    by_cases h0 : f x y = 0
    · have : f y x = 0 := by omega
      simp only [h0, this, ne_eq, not_true_eq_false, if_false]; exact c
    · have : f y x ≠ 0 := by omega
      simp only [ne_eq, h0, this, not_false_eq_true, if_true]; exact a
  · intro h1 h2
    have sm : ∀ {u v : α}, (if f u v ≠ 0 then f u v else g u v) ≤ 0 → f u v < 0 ∨ (f u v = 0 ∧ g u v ≤ 0) := by
      intro u v hh
      by_cases h0 : f u v = 0
      · simp [h0] at hh; exact .inr ⟨h0, hh⟩
      · simp [h0] at hh; exact .inl (by omega)
    have goal : f x z < 0 ∨ (f x z = 0 ∧ g x z ≤ 0) := by
      rcases sm h1 with a | ⟨a, a'⟩ <;> rcases sm h2 with b | ⟨b, b'⟩
      · exact .inl (h.lt_le hx hy hz a (by omega))
      · exact .inl (h.lt_le hx hy hz a (by omega))
      · exact .inl (h.le_lt hx hy hz (by omega) b)
      · have c := h.tr x y z hx hy hz (by omega) (by omega)
        have d := h.tr z y x hz hy hx (by have := h.symm hy hz b; omega) (by have := h.symm hx hy a; omega)
        have e := h.anti x z hx hz
        have e' := h.anti z x hz hx
        exact .inr ⟨by omega, k.tr x y z hx hy hz a' b'⟩
    show (if f x z ≠ 0 then f x z else g x z) ≤ 0
    rcases goal with a | ⟨a, a'⟩
    · rw [if_pos (by omega)]; omega
    · rw [if_neg (by omega)]; exact a'
end

theorem cmpInt_ord : Ord3 (fun _ : Int => True) cmpInt := by
  refine ⟨fun x y _ _ => ?_, fun x y z _ _ _ => ?_⟩ <;> unfold cmpInt <;> repeat' split <;> omega
theorem compareBytes_anti : ∀ a b : List UInt8, (Lib.compareBytes a b < 0 ↔ 0 < Lib.compareBytes b a)
  | [], [] => by simp [Lib.compareBytes]
  | [], _ :: _ => by simp [Lib.compareBytes]
  | _ :: _, [] => by simp [Lib.compareBytes]
  | a :: l, b :: r => by
    simp only [Lib.compareBytes]
    by_cases h1 : a < b
    · have h2 : ¬ b < a := UInt8.lt_asymm h1
      simp [h1, h2]
    · by_cases h2 : b < a
      · simp [h1, h2]
      · simp only [h1, h2, if_false]; exact compareBytes_anti l r
theorem compareBytes_tr : ∀ a b c : List UInt8, Lib.compareBytes a b ≤ 0 → Lib.compareBytes b c ≤ 0 → Lib.compareBytes a c ≤ 0
  | [], _, [] => by simp [Lib.compareBytes]
  | [], _, _ :: _ => by simp [Lib.compareBytes]
  | _ :: _, [], _ => by simp [Lib.compareBytes]
  | _ :: _, _ :: _, [] => by simp [Lib.compareBytes]
  | a :: l, b :: r, c :: t => by
    simp only [Lib.compareBytes]
    intro h1 h2
    by_cases e1 : b < a
    · have : ¬ a < b := UInt8.lt_asymm e1
      simp [e1, this] at h1
    · by_cases e2 : c < b
      · have : ¬ b < c := UInt8.lt_asymm e2
        simp [e2, this] at h2
      · by_cases e3 : a < c
        · simp [e3]
        · have e4 : ¬ c < a := by rw [UInt8.lt_iff_toNat_lt] at *; omega
          have e5 : ¬ a < b := by rw [UInt8.lt_iff_toNat_lt] at *; omega
          have e6 : ¬ b < c := by rw [UInt8.lt_iff_toNat_lt] at *; omega
          simp only [e1, e5, if_false] at h1
          simp only [e2, e6, if_false] at h2
          simp only [e3, e4, if_false]
          exact compareBytes_tr l r t h1 h2
theorem compareBytes_zero : ∀ a b : List UInt8, Lib.compareBytes a b = 0 → a = b
  | [], [], _ => rfl
  | [], _ :: _, h => by simp [Lib.compareBytes] at h
  | _ :: _, [], h => by simp [Lib.compareBytes] at h
  | a :: l, b :: r, h => by
    simp only [Lib.compareBytes] at h
    by_cases h1 : a < b
    · simp [h1] at h
    · by_cases h2 : b < a
      · simp [h1, h2] at h
      · simp only [h1, h2, if_false] at h
        have e : a = b := by
          have : a.toNat = b.toNat := by rw [UInt8.lt_iff_toNat_lt] at *; omega
          exact UInt8.toNat_inj.1 this
        rw [e, compareBytes_zero l r h]
theorem compareBytes_ord : Ord3 (fun _ : List UInt8 => True) Lib.compareBytes := ⟨fun x y _ _ => compareBytes_anti x y, fun x y z _ _ _ => compareBytes_tr x y z⟩

theorem cellCompare_ord (k : Int) : Ord3 (fun c : Cell => cellCheck k c = 0) (cellCompare k) := by
  have h1 : Ord3 (fun _ : Cell => True) (fun x y => cmpInt (rankOf k x.num) (rankOf k y.num)) := cmpInt_ord.comap fun c : Cell => rankOf k c.num
  have h2 : Ord3 (fun _ : Cell => True) (fun x y => Lib.compareBytes x.text.data.toList y.text.data.toList) := compareBytes_ord.comap fun c : Cell => c.text.data.toList
  refine ((h1.lex h2).mono fun _ _ => trivial).congr fun x y hx hy => ?_
  unfold cellCompare
  rw [if_neg (by simp [hx, hy])]
  simp only [orOf]
  by_cases h0 : cmpInt (rankOf k x.num) (rankOf k y.num) = 0
  · simp only [h0, ne_eq, not_true_eq_false, if_false]; split <;> simp_all
  · simp [h0]

def RowOK : List Col → List Cell → Prop
  | [], [] => True
  | c :: cs, x :: xs => cellCheck c.kind x = 0 ∧ RowOK cs xs
  | _, _ => False
theorem rowOK_of : ∀ (s : List Col) (r : List Cell), r.length = s.length → cellsLoop s r = 0 → RowOK s r
  | [], [], _, _ => trivial
  | [], _ :: _, h, _ => by simp at h
  | _ :: _, [], h, _ => by simp at h
  | c :: cs, x :: xs, h, h1 => by
    simp only [cellsLoop] at h1
    by_cases h0 : cellCheck c.kind x = 0
    · simp only [h0, ne_eq, not_true_eq_false, if_false] at h1
      exact ⟨h0, rowOK_of cs xs (by simpa using h) h1⟩
    · simp [h0] at h1
theorem RowOK.length : ∀ {s : List Col} {r : List Cell}, RowOK s r → r.length = s.length
  | [], [], _ => rfl
  | [], _ :: _, h => h.elim
  | _ :: _, [], h => h.elim
  | c :: cs, x :: xs, h => by simp [RowOK.length h.2]
theorem rowOK_check {s : List Col} {r : List Cell} (h : rowCheck s r = 0) : RowOK s r := by
  unfold rowCheck at h
  split at h
  · rename_i h1; exact absurd h h1
  · split at h
    · omega
    · rename_i h2; exact rowOK_of s r (by omega) h
theorem orders_ord : ∀ s : List Col, Ord3 (RowOK s) (fun a b => orOf (ordersOf s a b))
  | [] => ⟨fun x y _ _ => by cases x <;> cases y <;> simp [ordersOf, orOf], fun x y z _ _ _ => by cases x <;> cases z <;> simp [ordersOf, orOf]⟩
  | c :: cs => by
    have ih := orders_ord cs
    have h1 : Ord3 (fun p : Cell × List Cell => cellCheck c.kind p.1 = 0) (fun x y => cellCompare c.kind x.1 y.1) := (cellCompare_ord c.kind).comap Prod.fst
    have h2 : Ord3 (fun p : Cell × List Cell => RowOK cs p.2) (fun x y => orOf (ordersOf cs x.2 y.2)) := ih.comap Prod.snd
    have h3 := (h1.mono (P := fun p : Cell × List Cell => cellCheck c.kind p.1 = 0 ∧ RowOK cs p.2) fun _ h => h.1).lex (h2.mono fun _ h => h.2)
    refine ⟨fun x y hx hy => ?_, fun x y z hx hy hz => ?_⟩
    · cases x with
      | nil => exact hx.elim
      | cons x xs =>
        cases y with
        | nil => exact hy.elim
        | cons y ys => exact h3.anti (x, xs) (y, ys) hx hy
    · cases x with
      | nil => exact hx.elim
      | cons x xs =>
        cases y with
        | nil => exact hy.elim
        | cons y ys =>
          cases z with
          | nil => exact hz.elim
          | cons z zs => exact h3.tr (x, xs) (y, ys) (z, zs) hx hy hz
theorem rowCompare_ord (s : List Col) : Ord3 (fun r => rowCheck s r = 0) (rowCompare s) :=
  ((orders_ord s).mono fun _ h => rowOK_check h).congr fun x y hx hy => by unfold rowCompare; rw [if_neg (by simp [hx, hy])]

theorem xor_cancel {a b c : Nat} (h : a ^^^ c = b ^^^ c) : a = b := by
  have := congrArg (· ^^^ c) h
  simpa [Nat.xor_assoc] using this
theorem xor_half {a b : Nat} (ha : a < 9223372036854775808) (hb : 9223372036854775808 ≤ b) (hb' : b < 18446744073709551616) : a ^^^ 9223372036854775808 ≠ 18446744073709551615 ^^^ b := fun h => by
  have h1 := congrArg (fun x => x.testBit 63) h
  simp only [Nat.testBit_xor] at h1
  have e1 : a.testBit 63 = false := Nat.testBit_lt_two_pow (by omega)
  have e2 : b.testBit 63 = true := Nat.testBit_of_two_pow_le_and_two_pow_add_one_gt (by omega) (by omega)
  have e3 : (9223372036854775808 : Nat).testBit 63 = true := by decide
  have e4 : (18446744073709551615 : Nat).testBit 63 = true := by decide
  rw [e1, e2, e3, e4] at h1
  exact absurd h1 (by decide)
theorem max_u64 : IntKind.u64.max = ((18446744073709551615 : Nat) : Int) := by decide
theorem rankOf_inj {k m n : Int} (hm : U64 m) (hn : U64 n) (h : rankOf k m = rankOf k n) : m = n := by
  obtain ⟨a, b⟩ := hm
  obtain ⟨c, d⟩ := hn
  obtain ⟨m, rfl⟩ := Int.eq_ofNat_of_zero_le a
  obtain ⟨n, rfl⟩ := Int.eq_ofNat_of_zero_le c
  have hs : (9223372036854775808 : Int) = ((9223372036854775808 : Nat) : Int) := rfl
  have x1 : ∀ x : Nat, (x : Int) ≤ 18446744073709551615 → bits .xor .u64 (x : Int) 9223372036854775808 = ((x ^^^ 9223372036854775808 : Nat) : Int) := fun x hx => bits_xor_u64_nat x 9223372036854775808 (by omega) (by omega)
  have x2 : ∀ x : Nat, (x : Int) ≤ 18446744073709551615 → bits .xor .u64 IntKind.u64.max (x : Int) = ((18446744073709551615 ^^^ x : Nat) : Int) := fun x hx => by rw [max_u64]; exact bits_xor_u64_nat _ x (by omega) (by omega)
  unfold rankOf at h
  rw [x1 m b, x1 n d, x2 m b, x2 n d] at h
  by_cases h0 : k = 0
  · simp only [h0, if_true] at h
    rw [xor_cancel (Int.ofNat_inj.1 h)]
  · by_cases h5 : k = 5
    · simp only [h0, h5, if_true, if_false] at h
      by_cases hm1 : (m : Int) < 9223372036854775808 <;> by_cases hn1 : (n : Int) < 9223372036854775808
      · simp only [hm1, hn1, if_true] at h
        have h := Int.ofNat_inj.1 (by simpa using h)
        rw [xor_cancel h]
      · simp only [hm1, hn1, if_true, if_false] at h
        have h := Int.ofNat_inj.1 (by simpa using h)
        exact absurd h (xor_half (by omega) (by omega) (by omega))
      · simp only [hm1, hn1, if_true, if_false] at h
        have h := Int.ofNat_inj.1 (by simpa using h)
        exact absurd h.symm (xor_half (by omega) (by omega) (by omega))
      · simp only [hm1, hn1, if_false] at h
        have h := Int.ofNat_inj.1 (by simpa using h)
        rw [Nat.xor_comm, Nat.xor_comm _ n] at h
        rw [xor_cancel h]
    · simpa only [h0, h5, if_false] using h
theorem cellCompare_zero {k : Int} {x y : Cell} (hx : cellCheck k x = 0) (hy : cellCheck k y = 0) (h1 : U64 x.num) (h2 : U64 y.num) (h : cellCompare k x y = 0) : x = y := by
  unfold cellCompare at h
  rw [if_neg (by simp [hx, hy])] at h
  simp only [orOf] at h
  have e1 : cmpInt (rankOf k x.num) (rankOf k y.num) = 0 := by
    refine Decidable.byContradiction fun hn => ?_
    simp [hn] at h
  have e2 : Lib.compareBytes x.text.data.toList y.text.data.toList = 0 := by
    refine Decidable.byContradiction fun hn => ?_
    simp [e1, hn] at h
  have e3 : rankOf k x.num = rankOf k y.num := by unfold cmpInt at e1; repeat' split at e1 <;> omega
  have e4 := rankOf_inj h1 h2 e3
  have e5 := compareBytes_zero _ _ e2
  obtain ⟨n, ⟨⟨t⟩⟩⟩ := x
  obtain ⟨m, ⟨⟨u⟩⟩⟩ := y
  simp at e4 e5
  subst e4 e5
  rfl
theorem orders_zero : ∀ (s : List Col) (a b : List Cell), RowOK s a → RowOK s b → (∀ x ∈ a, U64 x.num) → (∀ x ∈ b, U64 x.num) → orOf (ordersOf s a b) = 0 → a = b
  | [], [], [], _, _, _, _, _ => rfl
  | [], _ :: _, _, h, _, _, _, _ => h.elim
  | [], _, _ :: _, _, h, _, _, _ => h.elim
  | _ :: _, [], _, h, _, _, _, _ => h.elim
  | _ :: _, _, [], _, h, _, _, _ => h.elim
  | c :: cs, x :: xs, y :: ys, hx, hy, h1, h2, h => by
    simp only [ordersOf, orOf] at h
    have e1 : cellCompare c.kind x y = 0 := by
      refine Decidable.byContradiction fun hn => ?_
      simp [hn] at h
    simp only [e1, ne_eq, not_true_eq_false, if_false] at h
    rw [cellCompare_zero hx.1 hy.1 (h1 x (by simp)) (h2 y (by simp)) e1, orders_zero cs xs ys hx.2 hy.2 (fun z hz => h1 z (by simp [hz])) (fun z hz => h2 z (by simp [hz])) h]
theorem rowCompare_zero {s : List Col} {a b : List Cell} (ha : rowCheck s a = 0) (hb : rowCheck s b = 0) (h1 : ∀ x ∈ a, U64 x.num) (h2 : ∀ x ∈ b, U64 x.num) (h : rowCompare s a b = 0) : a = b := by
  unfold rowCompare at h
  rw [if_neg (by simp [ha, hb])] at h
  exact orders_zero s a b (rowOK_check ha) (rowOK_check hb) h1 h2 h
end Go.Proofs.YtlhdndnohmikeaaGreatDoor
