/-
  Walks: Collect's comparison; the sort, called.
  Walks: the set of any pairs (Collect): what it computes; the sort of its copy.
-/
import Derived.Test.YtlhdndnohmikeaaGreatDoorW20
set_option linter.unusedVariables false
set_option linter.unusedSimpArgs false
namespace Go.Proofs.YtlhdndnohmikeaaGreatDoor
open Go.RowKit

set_option maxRecDepth 100000 in
theorem collect1_calls (s : List Col) (x y : List Cell) (vx vy vs : Value) (wx wy : Int) (C : Nat) (w : World) (F G H : Nat → Prop) (hG : Glob w) (hC : w.cell? ⟨C, 0, none⟩ = some vs) (hs : SL colK w F vs s) (hx : SL cellK w G vx x) (hy : SL cellK w H vy y) :
    Calls Tryz.prog 73 #[.agg #[vx, .int .i64 wx], .agg #[vy, .int .i64 wy], .pointer (some ⟨C, 0, none⟩)] w fun e w' => e = .returned (.int .i64 (rowCompare s x y)) ∧ Below w.heap.size w w' := by
  obtain ⟨A, c, rfl, _, _⟩ := hs.form
  obtain ⟨A1, c1, rfl, _, _⟩ := hx.form
  obtain ⟨A2, c2, rfl, _, _⟩ := hy.form
  have hC1 := cell_al2 hC (.cells #[.slice A1 x.length c1, .int .i64 wx] 94) (.cells #[.slice A2 y.length c2, .int .i64 wy] 94)
  have hCC : ∀ W : World, Below w.heap.size w W → Calls Tryz.prog 74 #[.slice A s.length c, .slice A1 x.length c1, .slice A2 y.length c2] W fun e w' => e = .returned (.int .i64 (rowCompare s x y)) ∧ Below W.heap.size W w' := fun W h => rowCompare_calls s x y _ _ _ W _ _ _ (hG.below h) (hs.below h) (hx.below h) (hy.below h)
  have CC := Lib.hid hCC
  clear hCC
  go_enter Tryz.func73, Tryz.ntmps73
  go_wp2_with (go_at_call 74; refine (CC.out _ (bel_alloc (bel_alloc (Below.refl _ _) _) _)).mono ?_; rintro e w1 ⟨rfl, hb1⟩)
  go_ret
  exact ⟨rfl, bel_trans (bel_alloc (bel_alloc (Below.refl _ _) _) _) hb1⟩

def Elt.pair (x : Elt) : Pair := ⟨x.row, x.weight⟩
/-- The elements of a row of pairs. -/
theorem elts_of {w : World} {F : Nat → Prop} {xs : List Pair} {cs : List Value} (h : Rel (pairK.rel w F) xs cs) : ∃ es : List Elt, es.map Elt.pair = xs ∧ cs = es.flatMap (fun e => [e.val, .int .i64 e.weight]) ∧ ∀ e ∈ es, SL cellK w F e.val e.row ∧ I64 e.weight := by
  induction h with
  | nil => exact ⟨[], rfl, rfl, by simp⟩
  | @cons x c xs cs h1 _ ih =>
    obtain ⟨v, rfl, hv, hw⟩ := h1
    obtain ⟨es, rfl, rfl, h3⟩ := ih
    exact ⟨⟨v, x.row, x.weight⟩ :: es, rfl, rfl, fun e he => by rcases List.mem_cons.1 he with rfl | he; exact ⟨hv, hw⟩; exact h3 e he⟩
theorem flat_get : ∀ (es : List Elt) (i : Nat) (h : i < es.length), (es.flatMap (fun e => [e.val, Value.int .i64 e.weight]))[i * 2]? = some es[i].val ∧ (es.flatMap (fun e => [e.val, Value.int .i64 e.weight]))[i * 2 + 1]? = some (.int .i64 es[i].weight)
  | [], _, h => by simp at h
  | e :: es, 0, _ => by simp
  | e :: es, i + 1, h => by
    have := flat_get es i (by simpa using h)
    rw [show (i + 1) * 2 = i * 2 + 2 by omega]
    simpa using this
theorem flat_len (es : List Elt) : (es.flatMap (fun e => [e.val, Value.int .i64 e.weight])).length = es.length * 2 := by
  induction es with
  | nil => rfl
  | cons e es ih => simp only [List.flatMap_cons, List.length_append, ih, List.length_cons, List.length_nil]; omega
theorem arr_of {w : World} {base g n cap : Nat} {F : Nat → Prop} {xs : List Pair} (h : Own pairK 94 w base F (.slice (some ⟨g, 0, none⟩) n cap) xs) :
    ∃ es : List Elt, es.map Elt.pair = xs ∧ Arr w g es ∧ n = es.length ∧ base ≤ g ∧ g < w.heap.size ∧ ∀ e ∈ es, SL cellK w F e.val e.row ∧ I64 e.weight := by
  obtain ⟨cs, ho, hr⟩ := h
  obtain ⟨es, he, hcs, hes⟩ := elts_of hr
  have hlt := ho.lt g rfl
  have hn : n = xs.length := by
    rcases ho.2 with ⟨h1, _⟩ | ⟨g', cap', cur, h1, _⟩
    · cases h1
    · injection h1
  have hl : xs.length = es.length := by rw [← he, List.length_map]
  subst hn
  have hc := fun j hj => World.ownsRow.cellAt ho j hj
  rw [hcs] at hc
  refine ⟨es, he, ⟨fun i hi => ?_, fun i hi => ?_, fun o => World.ownsRow.frozenAt ho o, fun x hx => ?_⟩, hl, hlt.1, hlt.2, hes⟩
  · rw [hc (i * 2) (by show i * 2 < xs.length * 2; omega)]; exact (flat_get es i hi).1
  · rw [hc (i * 2 + 1) (by show i * 2 + 1 < xs.length * 2; omega)]; exact (flat_get es i hi).2
  · obtain ⟨A, c, hv, _⟩ := (hes x hx).1.form
    exact ⟨A, _, c, hv⟩

/-- A valid row that lies in F. -/
def Fit (s : List Col) (w : World) (F : Nat → Prop) (x : Elt) : Prop := SL cellK w F x.val x.row ∧ rowCheck s x.row = 0
def cfOf (s : List Col) (x y : Elt) : Int := rowCompare s x.row y.row
theorem cmp_of {s : List Col} {w : World} {B C : Nat} {vs : Value} {F G : Nat → Prop} (hG : ∀ W, w.grownBy W (some B) → Glob W) (hC : w.cell? ⟨C, 0, none⟩ = some vs) (hCB : C ≠ B) (hs : SL colK w G vs s) (hGB : ¬ G B) (hFB : ¬ F B) : Cmp w B C (cfOf s) (Fit s w F) where
  call := fun W x y hW hx hy => by
    have k1 : Kept F w W := Kept.of_grown hW (fun k hk => by injection hk with hk; subst hk; exact hFB)
    have k2 : Kept G w W := Kept.of_grown hW (fun k hk => by injection hk with hk; subst hk; exact hGB)
    exact collect1_calls s x.row y.row x.val y.val vs _ _ C W _ _ _ (hG W hW) ((gcell hW C 0 (World.block_lt_of_cell? w _ hC) hCB).trans hC) (hs.keep k2 hW.size) (hx.1.keep k1 hW.size) (hy.1.keep k1 hW.size)
  asym := fun x y hx hy h => by have := ((rowCompare_ord s).anti x.row y.row hx.2 hy.2).1 h; unfold cfOf; omega
  trans := fun x y z hx hy hz h1 h2 => by
    have o := rowCompare_ord s
    unfold cfOf at *
    have a := o.anti y.row x.row hy.2 hx.2
    have a' := o.anti x.row y.row hx.2 hy.2
    have b := o.anti z.row y.row hz.2 hy.2
    have b' := o.anti y.row z.row hy.2 hz.2
    have c := o.anti x.row z.row hx.2 hz.2
    have c' := o.anti z.row x.row hz.2 hx.2
    have := o.tr x.row y.row z.row hx.2 hy.2 hz.2 (by omega) (by omega)
    omega

set_option maxRecDepth 100000 in
theorem sortStable_calls (w : World) (B C N cap : Nat) (cf : Elt → Elt → Int) (S : Elt → Prop) (hcmp : Cmp w B C cf S) (xs : List Elt) (hN : xs.length = N) (hc : N ≤ 1152921504606846975) (hS : ∀ y ∈ xs, S y) (hB : B < w.heap.size) (hA : Arr w B xs) :
    Calls Tryz.prog 72 #[.slice (some ⟨B, 0, none⟩) N cap, .func (.func 73) #[] #[.pointer (some ⟨C, 0, none⟩)]] w fun e w' => e = .returned (.tuple #[]) ∧ (∃ r, Arr w' B r ∧ r.Perm xs ∧ Sorted cf r) ∧ w.grownBy w' (some B) := by
  have HC := Lib.hid (stable_calls w B C N cap cf S hcmp xs hN hc hS hB hA)
  clear hcmp hN hS hA
  go_enter Tryz.func72, Tryz.ntmps72
  go_wp2_with (go_at_call 120; refine HC.out.mono ?_; rintro e w1 ⟨rfl, h1, h2⟩; have H1 := Lib.hid (And.intro h1 h2); clear h1 h2)
  go_end0
  exact ⟨rfl, H1.out⟩
set_option maxRecDepth 100000 in
theorem insertionNil_calls (w : World) (f : Value) :
    Calls Tryz.prog 157 #[.slice none 0 0, .int .i64 0, .int .i64 0, f] w fun e w' => e = .returned (.tuple #[]) ∧ w = w' := by
  go_enter Tryz.func157, Tryz.ntmps157
  go_wp2
  go_loopw [8] (fun vi wr => vi = .int .i64 1 ∧ w = wr) (fun _ _ => 0)
  case atStart => exact ⟨rfl, rfl⟩
  case round =>
    obtain ⟨rfl, rfl⟩ := hrel
    go_wp2
    go_end0
    exact ⟨rfl, rfl⟩
set_option maxRecDepth 100000 in
theorem stableNil_calls (w : World) (f : Value) :
    Calls Tryz.prog 120 #[.slice none 0 0, .int .i64 0, f] w fun e w' => e = .returned (.tuple #[]) ∧ w = w' := by
  go_enter Tryz.func120, Tryz.ntmps120
  go_wp2
  go_loopw [7, 8] (fun va vb wr => va = .int .i64 0 ∧ vb = .int .i64 20 ∧ w = wr) (fun _ _ _ => 0)
  case atStart => exact ⟨rfl, rfl, rfl⟩
  case round =>
    obtain ⟨rfl, rfl, rfl⟩ := hrel
    go_wp2_with (go_at_call 157; refine (insertionNil_calls _ f).mono ?_; rintro e w1 ⟨rfl, rfl⟩)
    go_loopw [6] (fun va wr => va = .int .i64 20 ∧ w = wr) (fun _ _ => 0)
    case atStart => exact ⟨rfl, rfl⟩
    case round =>
      obtain ⟨rfl, rfl⟩ := hrel
      go_wp2
      go_end0
      exact ⟨rfl, rfl⟩
set_option maxRecDepth 100000 in
theorem sortNil_calls (w : World) (f : Value) :
    Calls Tryz.prog 72 #[.slice none 0 0, f] w fun e w' => e = .returned (.tuple #[]) ∧ w = w' := by
  go_enter Tryz.func72, Tryz.ntmps72
  go_wp2_with (go_at_call 120; refine (stableNil_calls _ f).mono ?_; rintro e w1 ⟨rfl, rfl⟩)
  go_end0
  exact ⟨rfl, rfl⟩
end Go.Proofs.YtlhdndnohmikeaaGreatDoor

set_option linter.unusedVariables false
set_option linter.unusedSimpArgs false
namespace Go.Proofs.YtlhdndnohmikeaaGreatDoor
open Go.RowKit

def rowsLoop (s : List Col) : List Pair → Int
  | [] => 0
  | p :: ps => if rowCheck s p.row ≠ 0 then rowCheck s p.row else rowsLoop s ps
theorem rowsLoop_all {s : List Col} : ∀ {l : List Pair}, rowsLoop s l = 0 → ∀ p ∈ l, rowCheck s p.row = 0
  | [], _, _, hp => by cases hp
  | q :: l, h, p, hp => by
    simp only [rowsLoop] at h
    by_cases h0 : rowCheck s q.row = 0
    · simp only [h0, ne_eq, not_true_eq_false, if_false] at h
      rcases List.mem_cons.1 hp with rfl | hp
      · exact h0
      · exact rowsLoop_all h p hp
    · simp [h0] at h
def sumW : List Pair → Int
  | [] => 0
  | p :: ps => p.weight + sumW ps
theorem sumW_append (a b : List Pair) : sumW (a ++ b) = sumW a + sumW b := by
  induction a with
  | nil => simp [sumW]
  | cons x xs ih => simp [sumW, ih]; omega
theorem sumW_bound : ∀ (l : List Pair), (∀ p ∈ l, I64 p.weight) → -9223372036854775808 * (l.length : Int) ≤ sumW l ∧ sumW l ≤ 9223372036854775808 * (l.length : Int)
  | [], _ => by simp [sumW]
  | p :: l, h => by
    have h1 := sumW_bound l fun q hq => h q (by simp [hq])
    obtain ⟨a, b⟩ := h p (by simp)
    simp only [sumW, List.length_cons]
    constructor <;> omega
/-- The sums of what follows each other with the same row. -/
def groupRes (outs : List Pair) : List Pair → List Pair × Int
  | [] => if 1024 < outs.length then ([], 13) else (outs, 0)
  | p :: ps =>
    if fits (p.weight + sumW (ps.takeWhile fun q => decide (q.row = p.row))) = false then ([], 12)
    else if p.weight + sumW (ps.takeWhile fun q => decide (q.row = p.row)) = 0 then groupRes outs (ps.dropWhile fun q => decide (q.row = p.row))
    else groupRes (outs ++ [⟨p.row, p.weight + sumW (ps.takeWhile fun q => decide (q.row = p.row))⟩]) (ps.dropWhile fun q => decide (q.row = p.row))
termination_by l => l.length
decreasing_by
  all_goals
    have := (List.dropWhile_sublist (fun q : Pair => decide (q.row = p.row)) (l := ps)).length_le
    simp only [List.length_cons]; omega
theorem groupRes_step (outs : List Pair) (p : Pair) (pre post : List Pair) (hp : ∀ q ∈ pre, q.row = p.row) (hq : ∀ q, post.head? = some q → q.row ≠ p.row) :
    groupRes outs (p :: (pre ++ post)) = if fits (sumW (p :: pre)) = false then ([], 12) else if sumW (p :: pre) = 0 then groupRes outs post else groupRes (outs ++ [⟨p.row, sumW (p :: pre)⟩]) post := by
  have ht : (pre ++ post).takeWhile (fun q => decide (q.row = p.row)) = pre ∧ (pre ++ post).dropWhile (fun q => decide (q.row = p.row)) = post := by
    induction pre with
    | nil =>
      cases post with
      | nil => simp
      | cons q r => have := hq q rfl; simp [this]
    | cons x xs ih =>
      have h1 := ih fun q h => hp q (by simp [h])
      have h2 := hp x (by simp)
      simp [h2, h1]
  rw [groupRes, ht.1, ht.2]
  rfl
/-- What the set of any pairs is. -/
def Collected (s : List Col) (l out : List Pair) (ec : Int) : Prop :=
  (schemaCheck s ≠ 0 ∧ out = [] ∧ ec = schemaCheck s) ∨ (schemaCheck s = 0 ∧ rowsLoop s l ≠ 0 ∧ out = [] ∧ ec = rowsLoop s l) ∨
  (schemaCheck s = 0 ∧ rowsLoop s l = 0 ∧ ∃ ys : List Pair, ys.Perm l ∧ ys.Pairwise (fun x y => 0 ≤ rowCompare s y.row x.row) ∧ groupRes [] ys = (out, ec))

/-- The sorted copy. -/
structure Ready (s : List Col) (l : List Pair) (w3 : World) (F : Nat → Prop) (base : Nat) (A : Option Addr) (N : Nat) (es : List Elt) : Prop where
  len : N = es.length
  perm : (es.map Elt.pair).Perm l
  sorted : Sorted (cfOf s) es
  arr : 0 < N → ∃ g, A = some ⟨g, 0, none⟩ ∧ base ≤ g ∧ g < w3.heap.size ∧ Arr w3 g es
  rows : ∀ e ∈ es, SL cellK w3 F e.val e.row ∧ I64 e.weight ∧ rowCheck s e.row = 0
theorem sortAny_calls {s : List Col} {l : List Pair} {v vs : Value} {w w2 : World} {base C : Nat} {F G : Nat → Prop} (hown : Own pairK 94 w2 base F v l) (hrows : rowsLoop s l = 0) (hGl : Glob w) (hbw : Below w.heap.size w w2) (hbase : w.heap.size ≤ base) (hC : w2.cell? ⟨C, 0, none⟩ = some vs) (hs : SL colK w2 G vs s) (hCb : C < base) (hFb : ∀ k, F k → k < base) (hGb : ∀ k, G k → k < base)
    (hl : l.length ≤ 1152921504606846975) (hbs : base ≤ w2.heap.size) :
    Calls Tryz.prog 72 #[v, .func (.func 73) #[] #[.pointer (some ⟨C, 0, none⟩)]] w2 fun e w3 => e = .returned (.tuple #[]) ∧ (∃ A N cap es, v = .slice A N cap ∧ Ready s l w3 F base A N es) ∧ Below base w2 w3 := by
  have hv : (v = .slice none 0 0 ∧ l = []) ∨ ∃ g n cap, v = .slice (some ⟨g, 0, none⟩) n cap := by
    obtain ⟨cs, ho, hr⟩ := hown
    rcases ho.2 with ⟨h1, h2⟩ | ⟨g, cap, cur, h1, _⟩
    · exact .inl ⟨h1, List.eq_nil_of_length_eq_zero h2⟩
    · exact .inr ⟨g, _, cap, h1⟩
  rcases hv with ⟨rfl, rfl⟩ | ⟨g, n, cap, rfl⟩
  · refine (sortNil_calls w2 _).mono ?_
    rintro e w3 ⟨rfl, rfl⟩
    exact ⟨rfl, ⟨none, 0, 0, [], rfl, ⟨rfl, by simp, Sorted.nil _, fun h => by omega, by simp⟩⟩, Below.refl _ _⟩
  · obtain ⟨es, h1, h2, h3, h4, h5, h6⟩ := arr_of hown
    have hGg : ∀ W, w2.grownBy W (some g) → Glob W := fun W hW => hGl.below (bel_grown hbw hW fun k hk => by injection hk with hk; omega)
    have hcmp : Cmp w2 g C (cfOf s) (Fit s w2 F) := cmp_of hGg hC (by omega) hs (fun h => by have := hGb g h; omega) (fun h => by have := hFb g h; omega)
    have hlen : es.length ≤ 1152921504606846975 := by rw [← List.length_map (f := Elt.pair), h1]; exact hl
    have hall := rowsLoop_all hrows
    refine (sortStable_calls w2 g C n cap (cfOf s) (Fit s w2 F) hcmp es h3.symm (by omega) (fun y hy => ⟨(h6 y hy).1, hall y.pair (by rw [← h1]; exact List.mem_map_of_mem hy)⟩) h5 h2).mono ?_
    rintro e w3 ⟨rfl, ⟨r, k1, k2, k3⟩, k4⟩
    have hk : Kept F w2 w3 := Kept.of_grown k4 (fun k hk h => by injection hk with hk; have := hFb k h; omega)
    refine ⟨rfl, ⟨_, n, cap, r, rfl, ⟨by rw [k2.length_eq]; exact h3, by rw [← h1]; exact k2.map _, k3, fun _ => ⟨g, rfl, h4, Nat.lt_of_lt_of_le h5 k4.size, k1⟩, fun x hx => ?_⟩⟩, ?_⟩
    · have hx' := k2.mem_iff.1 hx
      exact ⟨(h6 x hx').1.keep hk k4.size, (h6 x hx').2, hall x.pair (by rw [← h1]; exact List.mem_map_of_mem hx')⟩
    · exact ⟨k4.os, k4.tape, k4.output, k4.size, fun k hk => k4.block k (by omega) (fun e => by injection e; omega)⟩
end Go.Proofs.YtlhdndnohmikeaaGreatDoor
