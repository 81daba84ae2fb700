/-
  Plain: a view is what its batches collect to; a snapshot of it can be written.
-/
import Derived.Test.YtlhdndnohmikeaaGreatDoorP3
import Derived.Test.YtlhdndnohmikeaaGreatDoorW55
set_option linter.unusedVariables false
set_option linter.unusedSimpArgs false
namespace Go.Proofs.YtlhdndnohmikeaaGreatDoor
open Go.RowKit

def batchPairs (es : List Entry) : List Pair := es.flatMap fun e => if e.kind = 0 then e.pairs else []
def batches (es : List Entry) : Nat := (es.map fun e => if e.kind = 0 then 1 else 0).sum
theorem batchPairs_snoc (es : List Entry) (e : Entry) : batchPairs (es ++ [e]) = batchPairs es ++ if e.kind = 0 then e.pairs else [] := by simp [batchPairs]
theorem batches_snoc (es : List Entry) (e : Entry) : batches (es ++ [e]) = batches es + if e.kind = 0 then 1 else 0 := by simp [batches]
theorem batches_le (es : List Entry) : batches es ≤ es.length := by
  induction es with
  | nil => simp [batches]
  | cons e es ih =>
    have : batches (e :: es) = (if e.kind = 0 then 1 else 0) + batches es := by simp [batches]
    rw [this, List.length_cons]
    split <;> omega
theorem batchPairs_size (es : List Entry) : pairsSize (batchPairs es) ≤ pairsSize (pairsOf2 es) := by
  induction es with
  | nil => simp [batchPairs, pairsOf2]
  | cons e es ih =>
    simp only [batchPairs, pairsOf2, List.flatMap_cons, pairsSize_append] at ih ⊢
    split
    · omega
    · simp only [show pairsSize ([] : List Pair) = 0 from rfl]; omega
structure TotalOf (s : List Col) (es : List Entry) (seq : Int) (view : List Pair) : Prop where
  n : seq = batches es
  canon : Canon s view
  len : view.length ≤ 1024
  w : ∀ r, wOf view r = wOf (batchPairs es) r
  rows : rowsLoop s (batchPairs es) = 0
  good : Good (batchPairs es)
theorem chain_total {s : List Col} {es : List Entry} {seq : Int} {view : List Pair} (h : Chain s es seq view) (hg : GoodE es) : TotalOf s es seq view := by
  induction h with
  | nil => exact ⟨rfl, Canon.nil s, by simp, fun r => rfl, rfl, fun p hp => by cases hp⟩
  | @snoc es seq view e n out h1 h2 h3 ih =>
    have ih := ih fun x hx => hg x (by simp [hx])
    have hge := hg e (by simp)
    have hgv := chain_good h1 fun x hx => hg x (by simp [hx])
    obtain ⟨_, _, hc, h4⟩ := applied_cases h3
    rcases h4 with ⟨k1, _, _, rfl, rfl⟩ | ⟨k1, _, hn, hs⟩
    · have k0 : ¬ e.kind = 0 := by omega
      have e1 : batchPairs (es ++ [e]) = batchPairs es := by rw [batchPairs_snoc, if_neg k0, List.append_nil]
      exact ⟨by rw [batches_snoc, if_neg k0]; exact ih.n, ih.canon, ih.len, by rw [e1]; exact ih.w, by rw [e1]; exact ih.rows, by rw [e1]; exact ih.good⟩
    · obtain ⟨_, hkind, _, _⟩ := entryCheck_facts hc
      have k0 : e.kind = 0 := by omega
      obtain ⟨_, m1, m2, m3, m4, _⟩ := summed_canon hgv hge hs
      have e1 : batchPairs (es ++ [e]) = batchPairs es ++ e.pairs := by rw [batchPairs_snoc, if_pos k0]
      refine ⟨by rw [batches_snoc, if_pos k0, hn, ih.n]; simp, m2, m3, fun r => by rw [m4, e1, wOf_append, wOf_append, ih.w], ?_, by rw [e1]; exact ih.good.append hge⟩
      rw [e1]
      refine canon_rows fun p hp => ?_
      rcases List.mem_append.1 hp with hp | hp
      · exact rows_D ih.good ih.rows p hp
      · exact rows_D (hgv.append hge) m1 p (by simp [hp])
theorem collect_view {s : List Col} {es : List Entry} {seq ec : Int} {view out : List Pair} (h0 : schemaCheck s = 0) (h : Chain s es seq view) (hg : GoodE es) (hc : Collected s (batchPairs es) out ec) : out = view ∧ ec = 0 := by
  have t := chain_total h hg
  have hgv := chain_good h hg
  rcases collected_ok t.good h0 t.rows hc with ⟨⟨r, hf⟩, _⟩ | ⟨_, c, hcc, hw, ho⟩
  · rw [← t.w] at hf
    by_cases h1 : wOf view r = 0
    · rw [h1] at hf; cases hf
    · obtain ⟨p, hp, rfl⟩ := wOf_has h1
      rw [t.canon.wOf_mem p hp] at hf
      have := (hgv p hp).2
      simp [fits, I64] at hf this
      omega
  · obtain rfl := canon_ext hcc t.canon fun r => by rw [hw, t.w]
    unfold fin1 at ho
    rw [if_neg (by have := t.len; omega)] at ho
    injection ho with e1 e2
    exact ⟨e1, e2⟩
/-- Rows that are pairwise others and all lie in a list weigh no more than it. -/
theorem rows_size (f : List Cell → Nat) : ∀ (v l : List Pair), v.Pairwise (fun p q => q.row ≠ p.row) → (∀ p ∈ v, ∃ q ∈ l, q.row = p.row) → (v.map fun p => f p.row).sum ≤ (l.map fun p => f p.row).sum
  | [], l, _, _ => by simp
  | p :: v, l, hv, hm => by
    obtain ⟨q, hq, hr⟩ := hm p (by simp)
    obtain ⟨a, b, rfl⟩ := List.append_of_mem hq
    rw [List.pairwise_cons] at hv
    have := rows_size f v (a ++ b) hv.2 fun x hx => by
      obtain ⟨y, hy, hyr⟩ := hm x (by simp [hx])
      refine ⟨y, ?_, hyr⟩
      rcases List.mem_append.1 hy with hy | hy
      · exact List.mem_append.2 (.inl hy)
      · rcases List.mem_cons.1 hy with rfl | hy
        · exact absurd (hyr.symm.trans hr) (hv.1 x hx)
        · exact List.mem_append.2 (.inr hy)
    simp only [List.map_append, List.map_cons, List.sum_append, List.sum_cons, hr] at this ⊢
    omega
theorem view_size {s : List Col} {es : List Entry} {seq : Int} {view : List Pair} (h : Chain s es seq view) (hg : GoodE es) : pairsSize view ≤ pairsSize (pairsOf2 es) := by
  have t := chain_total h hg
  refine Nat.le_trans ?_ (batchPairs_size es)
  refine rows_size (fun r => 1 + rowSize r + r.length) view (batchPairs es) (t.canon.up.imp_of_mem fun {a b} ha hb hlt => up_ne (t.canon.ok _ ha) hlt) fun p hp => ?_
  refine wOf_has ?_
  rw [← t.w, t.canon.wOf_mem p hp]
  exact t.canon.nz p hp
def cellCost (c : Cell) : Nat := 20 + c.text.size
theorem texts_cost : ∀ (l : List Cell) (last : ByteArray), (texts last l).length ≤ (l.map cellCost).sum
  | [], _ => by simp [texts]
  | c :: l, last => by
    have h1 := texts_cost l c.text
    have h2 := wireUint_len10 (shared (strBytes last) (strBytes c.text) : Nat)
    have h3 := wireUint_len10 (((strBytes c.text).drop (shared (strBytes last) (strBytes c.text))).length : Nat)
    have h5 : ((strBytes c.text).drop (shared (strBytes last) (strBytes c.text))).length ≤ c.text.size := by rw [List.length_drop, strBytes_len]; omega
    simp only [texts, wireBytes, List.length_append, List.map_cons, List.sum_cons, cellCost] at h1 ⊢
    omega
theorem cost_len (l : List Cell) : 20 * l.length ≤ (l.map cellCost).sum := by
  induction l with
  | nil => simp
  | cons c l ih => simp only [List.map_cons, List.sum_cons, List.length_cons, cellCost] at ih ⊢; omega
theorem columnBytes_cost (k : Int) (l : List Cell) : (columnBytes k l).length ≤ (l.map cellCost).sum := by
  have h1 := deltas_len l 0
  have h2 := boolBytes_len l
  have h3 := texts_cost l emptyS
  have h4 := numbers_len l
  have h5 := cost_len l
  unfold columnBytes
  repeat' split
  all_goals omega
def costUpto (p : Pair) (k : Nat) : Nat := ((List.range k).map fun j => cellCost (cellOf p j)).sum
theorem sum_add {α : Type} (f g : α → Nat) (l : List α) : (l.map fun x => f x + g x).sum = (l.map f).sum + (l.map g).sum := by
  induction l with
  | nil => simp
  | cons x l ih => simp only [List.map_cons, List.sum_cons, ih]; omega
theorem colsUpto_cost (s : List Col) (a : List Pair) : ∀ k, (colsUpto s a k).length ≤ (a.map fun p => costUpto p k).sum
  | 0 => by simp [colsUpto]
  | k + 1 => by
    have h1 := colsUpto_cost s a k
    have h2 := columnBytes_cost (kindOf s k) (colOf a k)
    have h3 : (a.map fun p => costUpto p (k + 1)).sum = (a.map fun p => costUpto p k).sum + (a.map fun p => cellCost (cellOf p k)).sum := by
      rw [← sum_add]
      congr 1
      refine List.map_congr_left fun p _ => ?_
      simp [costUpto, List.range_succ]
    rw [colsUpto_snoc, List.length_append, h3]
    unfold colOf at h2
    rw [List.map_map] at h2
    have : (a.map (cellCost ∘ fun p => cellOf p k)).sum = (a.map fun p => cellCost (cellOf p k)).sum := rfl
    unfold colOf
    omega
theorem costUpto_row (p : Pair) : ∀ k, k ≤ p.row.length → costUpto p k = ((p.row.take k).map cellCost).sum
  | 0, _ => by simp [costUpto]
  | k + 1, h => by
    have h1 := costUpto_row p k (by omega)
    rw [sum_take cellCost p.row k (by omega), ← h1]
    simp [costUpto, List.range_succ, cellOf, List.getD, List.getElem?_eq_getElem (show k < p.row.length by omega)]
theorem row_cost (r : List Cell) : (r.map cellCost).sum = 20 * r.length + rowSize r := by
  induction r with
  | nil => simp [rowSize]
  | cons c r ih => simp only [List.map_cons, List.sum_cons, List.length_cons, cellCost, rowSize] at ih ⊢; omega
theorem sum_le {α : Type} (f g : α → Nat) (l : List α) (h : ∀ x ∈ l, f x ≤ g x) : (l.map f).sum ≤ (l.map g).sum := by
  induction l with
  | nil => simp
  | cons x l ih =>
    have h1 := h x (by simp)
    have h2 := ih fun y hy => h y (by simp [hy])
    simp only [List.map_cons, List.sum_cons]
    omega
theorem sum_mul {α : Type} (c : Nat) (f : α → Nat) (l : List α) : (l.map fun x => c * f x).sum = c * (l.map f).sum := by
  induction l with
  | nil => simp
  | cons x l ih => simp only [List.map_cons, List.sum_cons, ih, Nat.mul_add]
theorem batch_cost {s : List Col} {a : List Pair} (h : ∀ p ∈ a, p.row.length = s.length) : (batchBytes s a).length ≤ 10 + 30 * pairsSize a := by
  have h1 := colsUpto_cost s a s.length
  have h2 : (a.map fun p => costUpto p s.length).sum ≤ 20 * pairsSize a := by
    unfold pairsSize
    rw [← sum_mul]
    refine sum_le _ _ _ fun p hp => ?_
    rw [← h p hp, costUpto_row p _ (Nat.le_refl _), List.take_length, row_cost]
    unfold pairSize
    omega
  have h3 := weightBytes_len a
  have h4 := wireUint_len10 (a.length : Int)
  have h5 := pairs_le_size a
  unfold batchBytes batchHead
  simp only [List.length_append]
  omega
/-- A snapshot of a run's view. -/
def snapOf (seq : Int) (view : List Pair) : Entry := ⟨1, seq, view⟩
theorem snap_ok {s : List Col} {es : List Entry} {seq : Int} {view : List Pair} (h1 : Good1 s es) (hg : GoodE es) (hc : Chain s es seq view) (hl : es.length ≤ 30) (hs : pairsSize (pairsOf2 es) ≤ 5000) : Good1 s (es ++ [snapOf seq view]) ∧ Chain s (es ++ [snapOf seq view]) seq view := by
  obtain ⟨h0, _, herr⟩ := h1
  have t := chain_total hc hg
  have hb := batches_le es
  have hn := t.n
  have hz := canon_check t.canon h0 t.len
  have hec : entryCheck s (snapOf seq view) = 0 := by
    unfold entryCheck snapOf
    rw [if_neg (by simp [h0]), if_neg (by simp), if_neg (by simp only; omega)]
    exact hz
  have hap : Applied s seq view (snapOf seq view) seq view 0 := .inr (.inr (.inr ⟨hz, by omega, hec, .inr (.inr (.inl ⟨rfl, rfl, rfl, rfl, rfl, rfl⟩))⟩))
  have hch := Chain.snoc hc (by omega) hap
  refine ⟨⟨h0, ⟨_, _, hch⟩, fun e he => ?_⟩, hch⟩
  rcases List.mem_append.1 he with he | he
  · exact herr e he
  · simp at he
    subst he
    have h2 := batch_cost (s := s) (a := view) (zset_cols hz).1
    have h3 := view_size hc hg
    have h4 := wireUint_len10 seq
    unfold entryErr
    rw [if_neg (by simp [hec]), if_neg]
    unfold entryPayload
    rw [List.length_append]
    show ¬ 1048576 < (wireUint seq).length + (batchBytes s view).length
    omega
theorem goodE_snap {s : List Col} {es : List Entry} {seq : Int} {view : List Pair} (hg : GoodE es) (hc : Chain s es seq view) : GoodE (es ++ [snapOf seq view]) := fun e he => by
  rcases List.mem_append.1 he with he | he
  · exact hg e he
  · simp at he; subst he; exact chain_good hc hg
theorem no_stop {s : List Col} {es : List Entry} {k : Nat} {seq ec : Int} {view : List Pair} (hk : k < es.length) (hg : GoodE es) (h1 : Good1 s es) (hc : Chain s (es.take k) seq view) : ¬ Stops s k seq view es[k] ec := by
  rintro ⟨h0, h | ⟨h2, h⟩⟩
  · exact no_fail hk hg h1 hc (.inl h)
  · exact no_fail hk hg h1 hc (.inr (.inl ⟨h2, h0, h⟩))
/-- What View comes to, where the trace can be written. -/
theorem viewed_good {s : List Col} {es : List Entry} {seq ec : Int} {view : List Pair} (hg : GoodE es) (h1 : Good1 s es) (h : Viewed s es seq view ec) : ec = 0 ∧ Chain s es seq view := by
  rcases h with ⟨out, n, he, h0, _⟩ | ⟨_, h, hc⟩ | ⟨_, k, sq, vw, hc, hk, hst⟩
  · exact absurd (encoded_good hg h1 he).1 h0
  · exact ⟨h, hc⟩
  · exact absurd hst (no_stop hk hg h1 hc)
theorem viewed_ok {s : List Col} {es : List Entry} {seq : Int} {view : List Pair} (hg : GoodE es) (h : Viewed s es seq view 0) : Good1 s es ∧ Chain s es seq view := by
  rcases h with ⟨out, n, he, h0, _⟩ | ⟨h1, _, hc⟩ | ⟨h1, k, sq, vw, hc, hk, hst⟩
  · exact absurd rfl h0
  · exact ⟨h1, hc⟩
  · exact absurd hst (no_stop hk hg h1 hc)
theorem viewed_bad {s : List Col} {es : List Entry} {seq ec : Int} {view : List Pair} (hg : GoodE es) (h : Viewed s es seq view ec) (h0 : ec ≠ 0) : seq = 0 ∧ view = [] := by
  rcases h with ⟨out, n, he, _, h⟩ | ⟨_, h, _⟩ | ⟨h1, k, sq, vw, hc, hk, hst⟩
  · exact h
  · exact absurd h h0
  · exact absurd hst (no_stop hk hg h1 hc)
end Go.Proofs.YtlhdndnohmikeaaGreatDoor
