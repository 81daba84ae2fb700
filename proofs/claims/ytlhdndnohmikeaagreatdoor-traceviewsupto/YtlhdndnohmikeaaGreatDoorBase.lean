/-
  The words of this proof's walks: how a slice in memory reads as a Lean list (with the blocks that it touches), how that is kept, and what a row of the call's own is.
-/
import Derived.Test.YtlhdndnohmikeaaGreatDoorProg
import Derived.WalkKit
import Derived.LoopTactic
import Derived.WalkLawsBesides
import Derived.WalkSpells
import Derived.Lib.Hide
import Derived.KernelRfl
import Derived.Below
import Derived.Laws.OwnMore
import Derived.Maps.AppendAt
import Derived.Deep.AppendLies
import Derived.Deep.Draws
import Derived.Deep.LoopGhost
import Derived.Deep.QuietTactic
import Derived.BigQuiet
import Derived.RegionTactic
import Derived.OwnWalk
import Derived.Deep.Light
set_option linter.unusedVariables false
set_option linter.unusedSimpArgs false
namespace Go.Proofs.YtlhdndnohmikeaaGreatDoor
open Go.RowKit

/-! ### Addresses -/
theorem block_of_add (a : Addr) (n : Nat) : (a.add n).block = a.block := by unfold Addr.add; split <;> rfl
theorem add_of_add (a : Addr) (i j : Nat) : (a.add i).add j = a.add (i + j) := by
  unfold Addr.add
  by_cases hi : i = 0 <;> by_cases hj : j = 0 <;> simp [hi, hj, Nat.add_assoc]
theorem add_zero_ (a : Addr) : a.add 0 = a := by unfold Addr.add; simp

theorem below_drewN {B : Nat} {a w : World} (h : Below B a w) (n : Nat) : Below B a (w.drewN n) := ⟨h.os, h.tape, h.output, h.size, h.block⟩
theorem below_left {w w1 w2 : World} (h : Below w.heap.size w w1) (k : Below w1.heap.size w1 w2) : Below w.heap.size w w2 := h.trans (k.mono h.size)

/-- The blocks of F that are there stay as they were. -/
def Kept (F : Nat → Prop) (w w' : World) : Prop := ∀ k, F k → k < w.heap.size → w'.heap[k]? = w.heap[k]?
theorem Kept.refl (F : Nat → Prop) (w : World) : Kept F w w := fun _ _ _ => rfl
theorem Kept.of_below {F : Nat → Prop} {w w' : World} (h : Below w.heap.size w w') : Kept F w w' := fun k _ hk => h.block k hk
theorem Kept.of_below' {F : Nat → Prop} {B : Nat} {w w' : World} (h : Below B w w') (hF : ∀ k, F k → k < B) : Kept F w w' := fun k hk _ => h.block k (hF k hk)
theorem Kept.of_grown {F : Nat → Prop} {w w' : World} {row : Option Nat} (h : w.grownBy w' row) (hF : ∀ k, row = some k → ¬ F k) : Kept F w w' :=
  fun k hk hl => h.block k hl (fun e => hF k e.symm hk)
theorem Kept.set {F : Nat → Prop} {w : World} {p : Addr} (u : Value) (hF : ¬ F p.block) : Kept F w (w.setCell p u) :=
  fun k hk _ => Below.heap_setCell w p u k (fun e => hF (e ▸ hk))
theorem Kept.alloc (F : Nat → Prop) (w : World) (o : Obj) : Kept F w (w.alloc o) := fun k _ hl => Below.heap_alloc w o k hl

/-! ### A run of cells -/
/-- The cells from A on are xs, in a block of F. -/
def Cs (w : World) (F : Nat → Prop) (A : Option Addr) (xs : List Value) : Prop :=
  0 < xs.length → ∃ ad, A = some ad ∧ F ad.block ∧ ad.block < w.heap.size ∧ ∀ j u, xs[j]? = some u → w.cell? (ad.add j) = some u
theorem Cs.nil (w : World) (F : Nat → Prop) (A : Option Addr) : Cs w F A [] := fun h => absurd h (by simp)
section
variable {w w' : World} {F F' : Nat → Prop} {A : Option Addr} {xs : List Value}
theorem Cs.keep (h : Cs w F A xs) (hk : Kept F w w') (hs : w.heap.size ≤ w'.heap.size) : Cs w' F A xs := fun hn => by
  obtain ⟨ad, e, hF, hl, hc⟩ := h hn
  exact ⟨ad, e, hF, by omega, fun j u hu => (World.cell?_of_block (w := w) (by rw [block_of_add]; exact hk _ hF hl)).trans (hc j u hu)⟩
theorem Cs.wid (h : Cs w F A xs) (hF : ∀ k, F k → F' k) : Cs w F' A xs := fun hn => by
  obtain ⟨ad, e, h1, hl, hc⟩ := h hn
  exact ⟨ad, e, hF _ h1, hl, hc⟩
theorem Cs.bound (h : Cs w F A xs) : Cs w (fun k => F k ∧ k < w.heap.size) A xs := fun hn => by
  obtain ⟨ad, e, h1, hl, hc⟩ := h hn
  exact ⟨ad, e, ⟨h1, hl⟩, hl, hc⟩
theorem Cs.drop (h : Cs w F A xs) (k : Nat) : Cs w F (A.map (·.add k)) (xs.drop k) := fun hn => by
  rw [List.length_drop] at hn
  obtain ⟨ad, rfl, h1, hl, hc⟩ := h (by omega)
  refine ⟨ad.add k, rfl, by rw [block_of_add]; exact h1, by rw [block_of_add]; exact hl, fun j u hu => ?_⟩
  rw [add_of_add]
  exact hc _ u (by rw [← hu, List.getElem?_drop])
theorem Cs.take (h : Cs w F A xs) (k : Nat) : Cs w F A (xs.take k) := fun hn => by
  have hn' : 0 < xs.length := by rw [List.length_take] at hn; omega
  obtain ⟨ad, e, h1, hl, hc⟩ := h hn'
  refine ⟨ad, e, h1, hl, fun j u hu => hc j u ?_⟩
  rw [List.getElem?_take] at hu
  split at hu
  · exact hu
  · cases hu
end

/-! ### Kinds of elements -/
/-- How an element of a slice lies in its cells. -/
structure Kind (α : Type) where
  sz : Nat
  pos : 0 < sz
  rel : World → (Nat → Prop) → α → List Value → Prop
  len : ∀ {w F x cs}, rel w F x cs → cs.length = sz
  one : ∀ {w F x cs}, rel w F x cs → ∀ u ∈ cs, u.oneCell' = true
  keep : ∀ {w w' : World} {F x cs}, rel w F x cs → Kept F w w' → w.heap.size ≤ w'.heap.size → rel w' F x cs
  wid : ∀ {w : World} {F F' : Nat → Prop} {x cs}, rel w F x cs → (∀ k, F k → k < w.heap.size → F' k) → rel w F' x cs

/-- The elements xs lie in the cells cs, one after the other. -/
inductive Rel {α : Type} (R : α → List Value → Prop) : List α → List Value → Prop
  | nil : Rel R [] []
  | cons {x : α} {c : List Value} {xs : List α} {cs : List Value} : R x c → Rel R xs cs → Rel R (x :: xs) (c ++ cs)

section
variable {α : Type} {R R' : α → List Value → Prop} {xs ys : List α} {cs ds : List Value}
theorem Rel.mono (h : Rel R xs cs) (hR : ∀ x c, R x c → R' x c) : Rel R' xs cs := by
  induction h with
  | nil => exact .nil
  | cons h1 _ ih => exact .cons (hR _ _ h1) ih
theorem Rel.append (h : Rel R xs cs) (k : Rel R ys ds) : Rel R (xs ++ ys) (cs ++ ds) := by
  induction h with
  | nil => simpa using k
  | cons h1 _ ih => rw [List.cons_append, List.append_assoc]; exact .cons h1 ih
theorem Rel.single {x : α} (h : R x cs) : Rel R [x] cs := by
  have := Rel.cons h (Rel.nil (R := R)); simpa using this
theorem Rel.length {sz : Nat} (h : Rel R xs cs) (hl : ∀ x c, R x c → c.length = sz) : cs.length = xs.length * sz := by
  induction h with
  | nil => simp
  | cons h1 _ ih => rw [List.length_append, hl _ _ h1, ih, List.length_cons, Nat.add_mul, Nat.one_mul, Nat.add_comm]
theorem Rel.all {p : Value → Prop} (h : Rel R xs cs) (hp : ∀ x c, R x c → ∀ u ∈ c, p u) : ∀ u ∈ cs, p u := by
  induction h with
  | nil => intro u hu; cases hu
  | cons h1 _ ih =>
    intro u hu
    rcases List.mem_append.1 hu with h | h
    · exact hp _ _ h1 u h
    · exact ih u h
theorem Rel.get {sz : Nat} (h : Rel R xs cs) (hl : ∀ x c, R x c → c.length = sz) : ∀ (i : Nat) (x : α), xs[i]? = some x → R x ((cs.drop (i * sz)).take sz) := by
  induction h with
  | nil => intro i x hx; simp at hx
  | @cons y c ys cs h1 _ ih =>
    intro i x hx
    have hc := hl _ _ h1
    cases i with
    | zero =>
      obtain rfl : y = x := by simpa using hx
      simpa [hc] using h1
    | succ i =>
      have := ih i x (by simpa using hx)
      have e : (i + 1) * sz = c.length + i * sz := by rw [Nat.add_mul, Nat.one_mul, hc, Nat.add_comm]
      rw [e, List.drop_length_add_append]
      exact this
theorem Rel.drop {sz : Nat} (h : Rel R xs cs) (hl : ∀ x c, R x c → c.length = sz) (k : Nat) : Rel R (xs.drop k) (cs.drop (k * sz)) := by
  induction h generalizing k with
  | nil => simpa using Rel.nil
  | @cons y c ys cs h1 h2 ih =>
    cases k with
    | zero => simpa using Rel.cons h1 h2
    | succ k =>
      have e : (k + 1) * sz = c.length + k * sz := by rw [Nat.add_mul, Nat.one_mul, hl _ _ h1, Nat.add_comm]
      rw [e, List.drop_length_add_append, List.drop_succ_cons]
      exact ih k
theorem Rel.take {sz : Nat} (h : Rel R xs cs) (hl : ∀ x c, R x c → c.length = sz) (k : Nat) : Rel R (xs.take k) (cs.take (k * sz)) := by
  induction h generalizing k with
  | nil => simpa using Rel.nil
  | @cons y c ys cs h1 h2 ih =>
    cases k with
    | zero => simpa using Rel.nil
    | succ k =>
      have e : (k + 1) * sz = c.length + k * sz := by rw [Nat.add_mul, Nat.one_mul, hl _ _ h1, Nat.add_comm]
      rw [e, List.take_length_add_append, List.take_succ_cons]
      exact .cons h1 (ih k)
end

/-- The slice value v reads as xs. -/
def SL {α : Type} (d : Kind α) (w : World) (F : Nat → Prop) (v : Value) (xs : List α) : Prop :=
  ∃ (A : Option Addr) (c : Nat) (cs : List Value), v = .slice A xs.length c ∧ xs.length ≤ c ∧ c ≤ maxLen ∧ Cs w F A cs ∧ Rel (d.rel w F) xs cs
section
variable {α : Type} {d : Kind α} {w w' : World} {F F' : Nat → Prop} {v : Value} {xs : List α}
theorem SL.nil (d : Kind α) (w : World) (F : Nat → Prop) : SL d w F (.slice none 0 0) [] := ⟨none, 0, [], rfl, Nat.le_refl _, by unfold maxLen; omega, Cs.nil _ _ _, .nil⟩
theorem SL.keep (h : SL d w F v xs) (hk : Kept F w w') (hs : w.heap.size ≤ w'.heap.size) : SL d w' F v xs := by
  obtain ⟨A, c, cs, rfl, h1, h2, h3, h4⟩ := h
  exact ⟨A, c, cs, rfl, h1, h2, h3.keep hk hs, h4.mono fun _ _ h => d.keep h hk hs⟩
theorem SL.wid (h : SL d w F v xs) (hF : ∀ k, F k → k < w.heap.size → F' k) : SL d w F' v xs := by
  obtain ⟨A, c, cs, rfl, h1, h2, h3, h4⟩ := h
  exact ⟨A, c, cs, rfl, h1, h2, h3.bound.wid fun k hk => hF k hk.1 hk.2, h4.mono fun _ _ h => d.wid h hF⟩
theorem SL.below (h : SL d w F v xs) (hb : Below w.heap.size w w') : SL d w' F v xs := h.keep (Kept.of_below hb) hb.size
theorem SL.any (h : SL d w F v xs) : SL d w (fun _ => True) v xs := h.wid fun _ _ _ => trivial
theorem SL.bound (h : SL d w F v xs) : SL d w (fun k => F k ∧ k < w.heap.size) v xs := h.wid fun _ hk hl => ⟨hk, hl⟩
/-- What came in at w0 reads the same as long as nothing of w0 has turned. -/
theorem SL.since {w0 : World} (h : SL d w0 F v xs) (hb : Below w0.heap.size w0 w) : SL d w (fun k => F k ∧ k < w0.heap.size) v xs := h.bound.keep (Kept.of_below hb) hb.size
/-- Element i: where it lies, and its cells. -/
theorem SL.at_ (h : SL d w F v xs) {i : Nat} {x : α} (hx : xs[i]? = some x) :
    ∃ (ad : Addr) (c : Nat) (cs : List Value), v = .slice (some ad) xs.length c ∧ xs.length ≤ c ∧ c ≤ maxLen ∧ F ad.block ∧ ad.block < w.heap.size ∧ d.rel w F x cs ∧ ∀ j u, cs[j]? = some u → w.cell? (ad.add (i * d.sz + j)) = some u := by
  obtain ⟨A, c, cs, rfl, h1, h2, h3, h4⟩ := h
  have hlen := h4.length fun _ _ => d.len
  have hi : i < xs.length := (List.getElem?_eq_some_iff.1 hx).1
  have hg := h4.get (fun _ _ => d.len) i x hx
  have hgl := d.len hg
  obtain ⟨ad, rfl, hF, hl, hc⟩ := h3 (by rw [hlen]; exact Nat.mul_pos (by omega) d.pos)
  refine ⟨ad, c, _, rfl, h1, h2, hF, hl, hg, fun j u hu => hc _ u ?_⟩
  rw [List.getElem?_take] at hu
  split at hu
  · rw [← hu, List.getElem?_drop]
  · cases hu
theorem SL.len_le (h : SL d w F v xs) : xs.length ≤ maxLen := by obtain ⟨A, c, cs, rfl, h1, h2, h3, h4⟩ := h; omega
/-- The slice's own shape. -/
theorem SL.form (h : SL d w F v xs) : ∃ (A : Option Addr) (c : Nat), v = .slice A xs.length c ∧ xs.length ≤ c ∧ c ≤ maxLen := by
  obtain ⟨A, c, cs, rfl, h1, h2, h3, h4⟩ := h
  exact ⟨A, c, rfl, h1, h2⟩
/-- Out of a row of the call's own. -/
theorem SL.of_own {base e n : Nat} {cs : List Value} (h : w.ownsRow base e d.sz v n cs) (hr : Rel (d.rel w F) xs cs) (hn : n = xs.length) (hF : ∀ k, v.ownBlock = some k → F k) : SL d w F v xs := by
  subst hn
  have hcell := fun g => h.cells (g := g)
  have hlt := h.lt
  obtain ⟨h1, h2⟩ := h
  rcases h2 with ⟨rfl, h0⟩ | ⟨g, cap, cur, rfl, hg, hh, hnc, hsz, _⟩
  · have hx : xs = [] := List.eq_nil_of_length_eq_zero h0
    subst hx
    exact SL.nil d w F
  · exact ⟨some ⟨g, 0, none⟩, cap, cs, rfl, hnc, hsz, fun _ => ⟨_, rfl, hF g rfl, (hlt g rfl).2, hcell g rfl⟩, hr⟩
end

/-- A row of the call's own that reads as xs; what its elements lead to lies in F. -/
def Own {α : Type} (d : Kind α) (e : Nat) (w : World) (base : Nat) (F : Nat → Prop) (v : Value) (xs : List α) : Prop :=
  ∃ cs, w.ownsRow base e d.sz v xs.length cs ∧ Rel (d.rel w F) xs cs
section
variable {α : Type} {d : Kind α} {w w' : World} {F F' : Nat → Prop} {v : Value} {xs : List α} {e base : Nat}
theorem Own.nil (d : Kind α) (e : Nat) (w : World) (base : Nat) (F : Nat → Prop) : Own d e w base F (.slice none 0 0) [] := ⟨[], ⟨by simp, .inl ⟨rfl, rfl⟩⟩, .nil⟩
theorem Own.sl (h : Own d e w base F v xs) : SL d w (fun k => F k ∨ base ≤ k) v xs := by
  obtain ⟨cs, ho, hr⟩ := h
  exact SL.of_own ho (hr.mono fun _ _ h => d.wid h fun _ hk _ => .inl hk) rfl fun k hk => .inr (ho.lt k hk).1
theorem Own.sl' (h : Own d e w base F v xs) (hF : ∀ k, v.ownBlock = some k → F k) : SL d w F v xs := by
  obtain ⟨cs, ho, hr⟩ := h
  exact SL.of_own ho hr rfl hF
theorem Own.lt (h : Own d e w base F v xs) : ∀ k, v.ownBlock = some k → base ≤ k ∧ k < w.heap.size := by
  obtain ⟨cs, ho, hr⟩ := h
  exact ho.lt
theorem Own.wid (h : Own d e w base F v xs) (hF : ∀ k, F k → k < w.heap.size → F' k) : Own d e w base F' v xs := by
  obtain ⟨cs, ho, hr⟩ := h
  exact ⟨cs, ho, hr.mono fun _ _ h => d.wid h hF⟩
theorem Own.keep (h : Own d e w base F v xs) {row : Option Nat} (hg : w.grownBy w' row) (hne : ∀ k, row = some k → v.ownBlock ≠ some k ∧ ¬ F k) : Own d e w' base F v xs := by
  obtain ⟨cs, ho, hr⟩ := h
  refine ⟨cs, ho.kept hg ?_, hr.mono fun _ _ h => d.keep h (Kept.of_grown hg fun k hk => (hne k hk).2) hg.size⟩
  cases row with
  | none => cases hv : v.ownBlock <;> simp
  | some k => exact .inr ((hne k rfl).1)
theorem Own.below (h : Own d e w base F v xs) (hb : Below w.heap.size w w') : Own d e w' base F v xs :=
  h.keep (row := none) ⟨hb.os, hb.tape, hb.output, hb.size, fun i hi _ => hb.block i hi⟩ (fun k hk => by cases hk)
end

/-! ### The kinds of this program -/
def flat {α : Type} (sz : Nat) (hp : 0 < sz) (enc : α → List Value) (ok : α → Prop) (hl : ∀ x, (enc x).length = sz) (h1 : ∀ x, ∀ u ∈ enc x, u.oneCell' = true) : Kind α where
  sz := sz
  pos := hp
  rel := fun _ _ x cs => cs = enc x ∧ ok x
  len := by rintro _ _ x _ ⟨rfl, _⟩; exact hl x
  one := by rintro _ _ x _ ⟨rfl, _⟩; exact h1 x
  keep := by rintro _ _ _ x _ h _ _; exact h
  wid := by rintro _ _ _ x _ h _; exact h

def I64 (x : Int) : Prop := -9223372036854775808 ≤ x ∧ x ≤ 9223372036854775807
def U64 (x : Int) : Prop := 0 ≤ x ∧ x ≤ 18446744073709551615
def U32 (x : Int) : Prop := 0 ≤ x ∧ x ≤ 4294967295

structure Cell where
  num : Int
  text : ByteArray
structure Col where
  name : ByteArray
  kind : Int
structure Pair where
  row : List Cell
  weight : Int
structure Entry where
  kind : Int
  seq : Int
  pairs : List Pair
structure Trace where
  schema : List Col
  entries : List Entry
structure Cursor where
  seq : Int
  off : Int
  print : Int
structure Deed where
  kind : Int
  pairs : List Pair

def byteK : Kind UInt8 := flat 1 (by omega) (fun b => [.int .u8 (b.toNat : Int)]) (fun _ => True) (fun _ => rfl) (fun x u hu => by simp at hu; subst hu; rfl)
def intK : Kind Int := flat 1 (by omega) (fun x => [.int .i64 x]) I64 (fun _ => rfl) (fun x u hu => by simp at hu; subst hu; rfl)
def cellK : Kind Cell := flat 2 (by omega) (fun c => [.int .u64 c.num, .string c.text]) (fun c => U64 c.num ∧ c.text.size ≤ maxLen) (fun _ => rfl) (fun x u hu => by simp at hu; rcases hu with rfl | rfl <;> rfl)
def colK : Kind Col := flat 2 (by omega) (fun c => [.string c.name, .int .i64 c.kind]) (fun c => I64 c.kind ∧ c.name.size ≤ maxLen) (fun _ => rfl) (fun x u hu => by simp at hu; rcases hu with rfl | rfl <;> rfl)
def curK : Kind Cursor := flat 3 (by omega) (fun c => [.int .i64 c.seq, .int .i64 c.off, .int .u32 c.print]) (fun c => I64 c.seq ∧ I64 c.off ∧ U32 c.print) (fun _ => rfl) (fun x u hu => by simp at hu; rcases hu with rfl | rfl | rfl <;> rfl)
/-- A slice of slices. -/
def rowK {α : Type} (d : Kind α) : Kind (List α) where
  sz := 1
  pos := by omega
  rel := fun w F xs cs => ∃ v, cs = [v] ∧ SL d w F v xs
  len := by rintro _ _ x _ ⟨v, rfl, _⟩; rfl
  one := by
    rintro _ _ x _ ⟨v, rfl, h⟩ u hu
    obtain ⟨A, c, rfl, _⟩ := h.form
    simp at hu; subst hu; rfl
  keep := by rintro _ _ _ x _ ⟨v, rfl, h⟩ hk hs; exact ⟨v, rfl, h.keep hk hs⟩
  wid := by rintro _ _ _ x _ ⟨v, rfl, h⟩ hF; exact ⟨v, rfl, h.wid hF⟩
def pairK : Kind Pair where
  sz := 2
  pos := by omega
  rel := fun w F p cs => ∃ v, cs = [v, .int .i64 p.weight] ∧ SL cellK w F v p.row ∧ I64 p.weight
  len := by rintro _ _ x _ ⟨v, rfl, _⟩; rfl
  one := by
    rintro _ _ x _ ⟨v, rfl, h, _⟩ u hu
    obtain ⟨A, c, rfl, _⟩ := h.form
    simp at hu; rcases hu with rfl | rfl <;> rfl
  keep := by rintro _ _ _ x _ ⟨v, rfl, h, h2⟩ hk hs; exact ⟨v, rfl, h.keep hk hs, h2⟩
  wid := by rintro _ _ _ x _ ⟨v, rfl, h, h2⟩ hF; exact ⟨v, rfl, h.wid hF, h2⟩
def entryK : Kind Entry where
  sz := 3
  pos := by omega
  rel := fun w F p cs => ∃ v, cs = [.int .i64 p.kind, .int .i64 p.seq, v] ∧ SL pairK w F v p.pairs ∧ I64 p.kind ∧ I64 p.seq
  len := by rintro _ _ x _ ⟨v, rfl, _⟩; rfl
  one := by
    rintro _ _ x _ ⟨v, rfl, h, _⟩ u hu
    obtain ⟨A, c, rfl, _⟩ := h.form
    simp at hu; rcases hu with rfl | rfl | rfl <;> rfl
  keep := by rintro _ _ _ x _ ⟨v, rfl, h, h2⟩ hk hs; exact ⟨v, rfl, h.keep hk hs, h2⟩
  wid := by rintro _ _ _ x _ ⟨v, rfl, h, h2⟩ hF; exact ⟨v, rfl, h.wid hF, h2⟩
def deedK : Kind Deed where
  sz := 2
  pos := by omega
  rel := fun w F p cs => ∃ v, cs = [.int .i64 p.kind, v] ∧ SL pairK w F v p.pairs ∧ I64 p.kind
  len := by rintro _ _ x _ ⟨v, rfl, _⟩; rfl
  one := by
    rintro _ _ x _ ⟨v, rfl, h, _⟩ u hu
    obtain ⟨A, c, rfl, _⟩ := h.form
    simp at hu; rcases hu with rfl | rfl <;> rfl
  keep := by rintro _ _ _ x _ ⟨v, rfl, h, h2⟩ hk hs; exact ⟨v, rfl, h.keep hk hs, h2⟩
  wid := by rintro _ _ _ x _ ⟨v, rfl, h, h2⟩ hF; exact ⟨v, rfl, h.wid hF, h2⟩

section
variable {w : World} {F : Nat → Prop} {v : Value}
/-- Byte i of a slice of bytes. -/
theorem byte_at {A : Option Addr} {n c : Nat} {bs : List UInt8} (h : SL byteK w F (.slice A n c) bs) {i : Nat} (hi : i < bs.length) :
    ∃ (ad : Addr), A = some ad ∧ ad.block < w.heap.size ∧ w.cell? (ad.add i) = some (.int .u8 ((bs.getD i 0).toNat : Int)) := by
  obtain ⟨ad, c, cs, e, h1, h2, _, hl, ⟨rfl, _⟩, hc⟩ := h.at_ (List.getElem?_eq_getElem hi)
  injection e with e _ _
  refine ⟨ad, e, hl, ?_⟩
  have := hc 0 _ rfl
  simpa [byteK, flat, List.getD_eq_getElem?_getD, List.getElem?_eq_getElem hi] using this
end

/-! ### Elements of structs, as the walk asks for their cells -/
theorem add_succ_ (a : Addr) (n : Nat) : a.add (n + 1) = ⟨a.block, a.off + (n + 1), none⟩ := by unfold Addr.add; rw [if_neg (by omega)]
section
variable {w : World} {F : Nat → Prop} {A : Option Addr} {n c : Nat}
theorem at0 {ad : Addr} {m : Nat} {u : Value} {cs : List Value} (h : ∀ j u, cs[j]? = some u → w.cell? (ad.add (m + j)) = some u) (h0 : cs[0]? = some u) : w.cell? (ad.add m) = some u := h 0 u h0
theorem at1 {ad : Addr} {m : Nat} {u : Value} {cs : List Value} (h : ∀ j u, cs[j]? = some u → w.cell? (ad.add (m + j)) = some u) (h0 : cs[1]? = some u) : w.cell? ⟨(ad.add m).block, (ad.add m).off + 1, none⟩ = some u := by
  have := h 1 u h0
  rwa [← add_of_add, add_succ_] at this
theorem at2 {ad : Addr} {m : Nat} {u : Value} {cs : List Value} (h : ∀ j u, cs[j]? = some u → w.cell? (ad.add (m + j)) = some u) (h0 : cs[2]? = some u) : w.cell? ⟨(ad.add m).block, (ad.add m).off + 2, none⟩ = some u := by
  have := h 2 u h0
  rwa [← add_of_add, add_succ_] at this
theorem cell_at {xs : List Cell} (h : SL cellK w F (.slice A n c) xs) {i : Nat} (hi : i < xs.length) :
    ∃ (ad : Addr), A = some ad ∧ ad.block < w.heap.size ∧ w.cell? (ad.add (i * 2)) = some (.int .u64 xs[i].num) ∧ w.cell? ⟨(ad.add (i * 2)).block, (ad.add (i * 2)).off + 1, none⟩ = some (.string xs[i].text) ∧ U64 xs[i].num ∧ xs[i].text.size ≤ maxLen := by
  obtain ⟨ad, c', cs, e, h1, h2, _, hl, ⟨rfl, hk⟩, hc⟩ := h.at_ (List.getElem?_eq_getElem hi)
  injection e with e _ _
  exact ⟨ad, e, hl, at0 hc rfl, at1 hc rfl, hk.1, hk.2⟩
theorem col_at {xs : List Col} (h : SL colK w F (.slice A n c) xs) {i : Nat} (hi : i < xs.length) :
    ∃ (ad : Addr), A = some ad ∧ ad.block < w.heap.size ∧ w.cell? (ad.add (i * 2)) = some (.string xs[i].name) ∧ w.cell? ⟨(ad.add (i * 2)).block, (ad.add (i * 2)).off + 1, none⟩ = some (.int .i64 xs[i].kind) ∧ I64 xs[i].kind ∧ xs[i].name.size ≤ maxLen := by
  obtain ⟨ad, c', cs, e, h1, h2, _, hl, ⟨rfl, hk⟩, hc⟩ := h.at_ (List.getElem?_eq_getElem hi)
  injection e with e _ _
  exact ⟨ad, e, hl, at0 hc rfl, at1 hc rfl, hk.1, hk.2⟩
theorem pair_at {xs : List Pair} (h : SL pairK w F (.slice A n c) xs) {i : Nat} (hi : i < xs.length) :
    ∃ (ad : Addr) (r : Value), A = some ad ∧ ad.block < w.heap.size ∧ w.cell? (ad.add (i * 2)) = some r ∧ w.cell? ⟨(ad.add (i * 2)).block, (ad.add (i * 2)).off + 1, none⟩ = some (.int .i64 xs[i].weight) ∧ SL cellK w F r xs[i].row ∧ I64 xs[i].weight := by
  obtain ⟨ad, c', cs, e, h1, h2, _, hl, ⟨r, rfl, hk⟩, hc⟩ := h.at_ (List.getElem?_eq_getElem hi)
  injection e with e _ _
  exact ⟨ad, r, e, hl, at0 hc rfl, at1 hc rfl, hk.1, hk.2⟩
theorem entry_at {xs : List Entry} (h : SL entryK w F (.slice A n c) xs) {i : Nat} (hi : i < xs.length) :
    ∃ (ad : Addr) (r : Value), A = some ad ∧ ad.block < w.heap.size ∧ w.cell? (ad.add (i * 3)) = some (.int .i64 xs[i].kind) ∧ w.cell? ⟨(ad.add (i * 3)).block, (ad.add (i * 3)).off + 1, none⟩ = some (.int .i64 xs[i].seq) ∧ w.cell? ⟨(ad.add (i * 3)).block, (ad.add (i * 3)).off + 2, none⟩ = some r ∧ SL pairK w F r xs[i].pairs ∧ I64 xs[i].kind ∧ I64 xs[i].seq := by
  obtain ⟨ad, c', cs, e, h1, h2, _, hl, ⟨r, rfl, hk⟩, hc⟩ := h.at_ (List.getElem?_eq_getElem hi)
  injection e with e _ _
  exact ⟨ad, r, e, hl, at0 hc rfl, at1 hc rfl, at2 hc rfl, hk.1, hk.2.1, hk.2.2⟩
theorem deed_at {xs : List Deed} (h : SL deedK w F (.slice A n c) xs) {i : Nat} (hi : i < xs.length) :
    ∃ (ad : Addr) (r : Value), A = some ad ∧ ad.block < w.heap.size ∧ w.cell? (ad.add (i * 2)) = some (.int .i64 xs[i].kind) ∧ w.cell? ⟨(ad.add (i * 2)).block, (ad.add (i * 2)).off + 1, none⟩ = some r ∧ SL pairK w F r xs[i].pairs ∧ I64 xs[i].kind := by
  obtain ⟨ad, c', cs, e, h1, h2, _, hl, ⟨r, rfl, hk⟩, hc⟩ := h.at_ (List.getElem?_eq_getElem hi)
  injection e with e _ _
  exact ⟨ad, r, e, hl, at0 hc rfl, at1 hc rfl, hk.1, hk.2⟩
theorem row_at {α : Type} {d : Kind α} {xs : List (List α)} (h : SL (rowK d) w F (.slice A n c) xs) {i : Nat} (hi : i < xs.length) :
    ∃ (ad : Addr) (r : Value), A = some ad ∧ ad.block < w.heap.size ∧ w.cell? (ad.add i) = some r ∧ SL d w F r xs[i] := by
  obtain ⟨ad, c', cs, e, h1, h2, _, hl, ⟨r, rfl, hk⟩, hc⟩ := h.at_ (List.getElem?_eq_getElem hi)
  injection e with e _ _
  exact ⟨ad, r, e, hl, by simpa [rowK] using at0 hc rfl, hk⟩
theorem cur_at {xs : List Cursor} (h : SL curK w F (.slice A n c) xs) {i : Nat} (hi : i < xs.length) :
    ∃ (ad : Addr), A = some ad ∧ ad.block < w.heap.size ∧ w.cell? (ad.add (i * 3)) = some (.int .i64 xs[i].seq) ∧ w.cell? ⟨(ad.add (i * 3)).block, (ad.add (i * 3)).off + 1, none⟩ = some (.int .i64 xs[i].off) ∧ w.cell? ⟨(ad.add (i * 3)).block, (ad.add (i * 3)).off + 2, none⟩ = some (.int .u32 xs[i].print) ∧ I64 xs[i].seq ∧ I64 xs[i].off ∧ U32 xs[i].print := by
  obtain ⟨ad, c', cs, e, h1, h2, _, hl, ⟨rfl, hk⟩, hc⟩ := h.at_ (List.getElem?_eq_getElem hi)
  injection e with e _ _
  exact ⟨ad, e, hl, at0 hc rfl, at1 hc rfl, at2 hc rfl, hk.1, hk.2.1, hk.2.2⟩
theorem int_at {xs : List Int} (h : SL intK w F (.slice A n c) xs) {i : Nat} (hi : i < xs.length) :
    ∃ (ad : Addr), A = some ad ∧ ad.block < w.heap.size ∧ w.cell? (ad.add i) = some (.int .i64 xs[i]) ∧ I64 xs[i] := by
  obtain ⟨ad, c', cs, e, h1, h2, _, hl, ⟨rfl, hk⟩, hc⟩ := h.at_ (List.getElem?_eq_getElem hi)
  injection e with e _ _
  exact ⟨ad, e, hl, by simpa [intK, flat] using at0 hc rfl, hk⟩
end

/-! ### '==' and '!=' of structs -/
def Cell.beq (a b : Cell) : Bool := a.num == b.num && decide (a.text = b.text)
theorem Cell.beq_iff {a b : Cell} : a.beq b = true ↔ a = b := by
  obtain ⟨x, s⟩ := a
  obtain ⟨y, t⟩ := b
  simp [Cell.beq]
instance : DecidableEq Cell := fun a b => if h : a.beq b = true then .isTrue (Cell.beq_iff.1 h) else .isFalse fun e => h (Cell.beq_iff.2 e)
def Col.beq (a b : Col) : Bool := decide (a.name = b.name) && a.kind == b.kind
theorem Col.beq_iff {a b : Col} : a.beq b = true ↔ a = b := by
  obtain ⟨x, s⟩ := a
  obtain ⟨y, t⟩ := b
  simp [Col.beq]
instance : DecidableEq Col := fun a b => if h : a.beq b = true then .isTrue (Col.beq_iff.1 h) else .isFalse fun e => h (Col.beq_iff.2 e)
def Cursor.beq (a b : Cursor) : Bool := a.seq == b.seq && (a.off == b.off && a.print == b.print)
theorem Cursor.beq_iff {a b : Cursor} : a.beq b = true ↔ a = b := by
  obtain ⟨x, s, u⟩ := a
  obtain ⟨y, t, v⟩ := b
  simp [Cursor.beq]
instance : DecidableEq Cursor := fun a b => if h : a.beq b = true then .isTrue (Cursor.beq_iff.1 h) else .isFalse fun e => h (Cursor.beq_iff.2 e)
instance : DecidableEq Pair := fun a b => if h : a.row = b.row ∧ a.weight = b.weight then .isTrue (by obtain ⟨x, y⟩ := a; obtain ⟨z, u⟩ := b; simp at h; obtain ⟨rfl, rfl⟩ := h; rfl) else .isFalse fun e => h (by rw [e]; exact ⟨rfl, rfl⟩)

theorem bytes_eq {a b : ByteArray} : a.toList = b.toList ↔ a = b := by
  rw [ByteArray.toList_eq, ByteArray.toList_eq]
  constructor
  · intro h
    obtain ⟨⟨x⟩⟩ := a
    obtain ⟨⟨y⟩⟩ := b
    simp at h
    rw [h]
  · intro h
    rw [h]
theorem neq_cell (a b : Cell) (w : World) : (binOp .neq 90 (.agg #[.int .u64 a.num, .string a.text]) (.agg #[.int .u64 b.num, .string b.text])).run Tryz.prog w = .ok (.bool (!a.beq b)) w := by
  simp [go_sem]
  unfold Cell.beq
  by_cases h1 : a.num = b.num <;> by_cases h2 : a.text = b.text <;> simp [h1, h2, bytes_eq]
theorem eql_cell (a b : Cell) (w : World) : (binOp .eql 90 (.agg #[.int .u64 a.num, .string a.text]) (.agg #[.int .u64 b.num, .string b.text])).run Tryz.prog w = .ok (.bool (a.beq b)) w := by
  simp [go_sem]
  unfold Cell.beq
  by_cases h1 : a.num = b.num <;> by_cases h2 : a.text = b.text <;> simp [h1, h2, bytes_eq]
theorem neq_col (a b : Col) (w : World) : (binOp .neq 87 (.agg #[.string a.name, .int .i64 a.kind]) (.agg #[.string b.name, .int .i64 b.kind])).run Tryz.prog w = .ok (.bool (!a.beq b)) w := by
  simp [go_sem]
  unfold Col.beq
  by_cases h1 : a.name = b.name <;> by_cases h2 : a.kind = b.kind <;> simp [h1, h2, bytes_eq]
theorem eql_col (a b : Col) (w : World) : (binOp .eql 87 (.agg #[.string a.name, .int .i64 a.kind]) (.agg #[.string b.name, .int .i64 b.kind])).run Tryz.prog w = .ok (.bool (a.beq b)) w := by
  simp [go_sem]
  unfold Col.beq
  by_cases h1 : a.name = b.name <;> by_cases h2 : a.kind = b.kind <;> simp [h1, h2, bytes_eq]
theorem neq_cur (a b : Cursor) (w : World) : (binOp .neq 77 (.agg #[.int .i64 a.seq, .int .i64 a.off, .int .u32 a.print]) (.agg #[.int .i64 b.seq, .int .i64 b.off, .int .u32 b.print])).run Tryz.prog w = .ok (.bool (!a.beq b)) w := by
  simp [go_sem]
  unfold Cursor.beq
  by_cases h1 : a.seq = b.seq <;> by_cases h2 : a.off = b.off <;> by_cases h3 : a.print = b.print <;> simp [h1, h2, h3]
theorem eql_cur (a b : Cursor) (w : World) : (binOp .eql 77 (.agg #[.int .i64 a.seq, .int .i64 a.off, .int .u32 a.print]) (.agg #[.int .i64 b.seq, .int .i64 b.off, .int .u32 b.print])).run Tryz.prog w = .ok (.bool (a.beq b)) w := by
  simp [go_sem]
  unfold Cursor.beq
  by_cases h1 : a.seq = b.seq <;> by_cases h2 : a.off = b.off <;> by_cases h3 : a.print = b.print <;> simp [h1, h2, h3]

/-! ### Ends -/
theorem ret_bool {a b : Bool} (h : a = b) : Ending.returned (.bool a) = .returned (.bool b) := by rw [h]
theorem ret_int {k : IntKind} {a b : Int} (h : a = b) : Ending.returned (.int k a) = .returned (.int k b) := by rw [h]
theorem bne_true {a b : Int} (h : ¬ a = b) : (a != b) = true := bne_iff_ne.2 h
theorem bne_false {a b : Int} (h : a = b) : (a != b) = false := bne_eq_false_iff_eq.2 h
theorem beq_true_ {a b : Int} (h : a = b) : (a == b) = true := beq_iff_eq.2 h
theorem beq_false_ {a b : Int} (h : ¬ a = b) : (a == b) = false := beq_eq_false_iff_ne.2 h

/-! ### What lay there when the call began -/
theorem bel_alloc {w W : World} (h : Below w.heap.size w W) (o : Obj) : Below w.heap.size w (W.alloc o) := h.alloc h.size o
theorem bel_drew {w W : World} (h : Below w.heap.size w W) : Below w.heap.size w W.drew := h.drew
theorem bel_drewN {w W : World} (h : Below w.heap.size w W) (n : Nat) : Below w.heap.size w (W.drewN n) := below_drewN h n
theorem bel_set {w W : World} (h : Below w.heap.size w W) {p : Addr} (hp : w.heap.size ≤ p.block) (u : Value) : Below w.heap.size w (W.setCell p u) := h.setCell hp u
theorem bel_trans {w W W' : World} (h : Below w.heap.size w W) (k : Below W.heap.size W W') : Below w.heap.size w W' := h.trans (k.mono h.size)
theorem bel_grown {w W W' : World} (h : Below w.heap.size w W) {row : Option Nat} (hg : W.grownBy W' row) (hr : ∀ k, row = some k → w.heap.size ≤ k) : Below w.heap.size w W' := h.grown hg h.size hr

theorem cell_al {w : World} {a : Addr} {v : Value} (h : w.cell? a = some v) (o : Obj) : (w.alloc o).cell? a = some v := (World.cell?_alloc_lt w o a (World.block_lt_of_cell? w a h)).trans h
theorem cell_al2 {w : World} {a : Addr} {v : Value} (h : w.cell? a = some v) (o o' : Obj) : ((w.alloc o).alloc o').cell? a = some v := cell_al (cell_al h o) o'

/-- What a call has left as it was: rules for the walk. -/
theorem bcell {W w1 : World} (hb : Below W.heap.size W w1) : (∀ b o, b < W.heap.size → w1.cell? ⟨b, o, none⟩ = W.cell? ⟨b, o, none⟩) ∧ (∀ b o, b < W.heap.size → w1.frozen? ⟨b, o, none⟩ = W.frozen? ⟨b, o, none⟩) :=
  ⟨fun b o h => hb.cell (p := ⟨b, o, none⟩) h, fun b o h => hb.frozen (p := ⟨b, o, none⟩) h⟩
/-- What lies beside the one row that may have been written. -/
theorem gcell {W w1 : World} {g : Nat} (hg : W.grownBy w1 (some g)) (b o : Nat) (hb : b < W.heap.size) (hne : b ≠ g) : w1.cell? ⟨b, o, none⟩ = W.cell? ⟨b, o, none⟩ :=
  World.cell?_of_block (w := W) (hg.block b hb (by simpa using hne))
theorem gfree {W w1 : World} {g : Nat} (hg : W.grownBy w1 (some g)) (b o : Nat) (hb : b < W.heap.size) (hne : b ≠ g) : w1.frozen? ⟨b, o, none⟩ = W.frozen? ⟨b, o, none⟩ :=
  World.frozen?_of_block (w := W) (hg.block b hb (by simpa using hne))
theorem bel_grow1 {w W W' : World} (h : Below w.heap.size w W) {g : Nat} (hg : W.grownBy W' (some g)) (hr : w.heap.size ≤ g) : Below w.heap.size w W' := bel_grown h hg fun k hk => by injection hk with hk; omega

/-! ### A region that draws its order, whose operations read, and whose calls leave alone what is there -/
/-- A world behind w, in which nothing of w has turned. -/
structure Later (w : World) where
  world : World
  below : Below w.heap.size w world
theorem later_below {w w' : World} (h : ∃ p : Later w, w' = p.world) : Below w.heap.size w w' := by obtain ⟨p, rfl⟩ := h; exact p.below
instance (w : World) : Inhabited (Later w) := ⟨⟨w, Below.refl _ _⟩⟩
theorem wp_region_later {id : Nat} {Q : Exit → Go.Act → World → Prop} {a : Go.Act} {w : World} {l : List Oper} (hm : Tryz.prog.follows .mixedOrders = true) (hB : Region.lexB .any l.toArray = true)
    (h : wpQuiet Tryz.prog l.toArray (fun w' => ∃ p : Later w, w' = p.world) (fun a' => ∀ w', (∃ p : Later w, w' = p.world) → Q .normal a' w') l a) : (Code.region id l.toArray true).wp Tryz.prog Q a w :=
  wp_region_quiet (C := fun w' => ∃ p : Later w, w' = p.world) hm hB ⟨⟨w.drew, (Below.refl _ _).drew⟩, rfl⟩ (by simpa using h)
theorem mixed : Tryz.prog.follows .mixedOrders = true := by kernel_rfl
theorem later_cell {w : World} {a : Addr} {v : Value} (h : w.cell? a = some v) (p : Later w) : p.world.cell? a = some v := (p.below.cell (World.block_lt_of_cell? w a h)).trans h
theorem later_of {w : World} {f : FuncId} {args : Array Value} {v : Value} {p : Later w} (h : Calls Tryz.prog f args p.world fun e w' => e = .returned v ∧ Below p.world.heap.size p.world w') :
    Calls Tryz.prog f args p.world fun e w'' => e = .returned v ∧ ∃ q : Later w, w'' = q.world :=
  h.mono fun _ w' ⟨he, hb⟩ => ⟨he, ⟨w', bel_trans p.below hb⟩, rfl⟩
theorem later_same {w : World} {f : FuncId} {args : Array Value} {v : Value} {p : Later w} (h : Calls Tryz.prog f args p.world fun e w' => e = .returned v ∧ p.world = w') :
    Calls Tryz.prog f args p.world fun e w'' => e = .returned v ∧ ∃ q : Later w, w'' = q.world :=
  h.mono fun _ w' ⟨he, hb⟩ => ⟨he, p, hb.symm⟩
theorem turn_eq {f : FuncId} {args : Array Value} {w : World} {v : Value} (h : Calls Tryz.prog f args w fun e w' => e = .returned v ∧ w = w') : Calls Tryz.prog f args w fun e w' => e = .returned v ∧ w' = w :=
  h.mono fun _ _ ⟨h1, h2⟩ => ⟨h1, h2.symm⟩
end Go.Proofs.YtlhdndnohmikeaaGreatDoor
