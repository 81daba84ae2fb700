/-
  Plain: an entry twice.
-/
import Derived.Test.YtlhdndnohmikeaaGreatDoorP2
set_option linter.unusedVariables false
set_option linter.unusedSimpArgs false
namespace Go.Proofs.YtlhdndnohmikeaaGreatDoor
open Go.RowKit

theorem collected_canon {s : List Col} {l out : List Pair} (hg : Good l) (h : Collected s l out 0) : schemaCheck s = 0 ∧ rowsLoop s l = 0 ∧ Canon s out ∧ out.length ≤ 1024 ∧ (∀ r, wOf out r = wOf l r) ∧ ∀ r, fits (wOf l r) = true := by
  have h' := h
  rcases h with ⟨h0, _, b⟩ | ⟨_, h0, _, b⟩ | ⟨h0, h1, _⟩
  · exact absurd b.symm h0
  · exact absurd b.symm h0
  · rcases collected_ok hg h0 h1 h' with ⟨_, a, b⟩ | ⟨hf, c, hc, hw, ho⟩
    · cases b
    · unfold fin1 at ho
      split at ho
      · injection ho with _ e; cases e
      · injection ho with e
        subst e
        exact ⟨h0, h1, hc, by omega, hw, hf⟩
theorem summed_canon {s : List Col} {a b out : List Pair} (ha : Good a) (hb : Good b) (h : Summed s a b out 0) : schemaCheck s = 0 ∧ rowsLoop s (a ++ b) = 0 ∧ Canon s out ∧ out.length ≤ 1024 ∧ (∀ r, wOf out r = wOf (a ++ b) r) ∧ ∀ r, fits (wOf (a ++ b) r) = true := by
  rcases h with ⟨h, _, e⟩ | ⟨_, h⟩
  · exact absurd e.symm h
  · exact collected_canon (ha.append hb) h
/-- What an entry that goes through does. -/
theorem applied_cases {s : List Col} {seq n : Int} {view out : List Pair} {x : Entry} (h : Applied s seq view x n out 0) : zsetCheck s view = 0 ∧ ¬ (seq < 0 ∨ 281474976710656 < seq) ∧ entryCheck s x = 0 ∧
    ((x.kind = 1 ∧ x.seq = seq ∧ view = x.pairs ∧ n = seq ∧ out = view) ∨ (x.kind ≠ 1 ∧ x.seq = seq + 1 ∧ n = seq + 1 ∧ Summed s view x.pairs out 0)) := by
  rcases h with ⟨h, _, _, e⟩ | ⟨_, _, _, _, e⟩ | ⟨_, _, h, _, _, e⟩ | ⟨h0, h1, h2, h⟩
  · exact absurd e.symm h
  · cases e
  · exact absurd e.symm h
  · refine ⟨h0, h1, h2, ?_⟩
    rcases h with ⟨_, _, _, e⟩ | ⟨_, _, _, _, _, e⟩ | ⟨a, b, c, d, e, _⟩ | ⟨a, b, sum, bad, hs, h⟩
    · cases e
    · cases e
    · exact .inl ⟨a, b, c, d, e⟩
    · rcases h with ⟨h, _, _, e⟩ | ⟨rfl, h, e, _⟩
      · exact absurd e.symm h
      · exact .inr ⟨a, b, h, e ▸ hs⟩
theorem applied_snap {s : List Col} {seq n : Int} {view out : List Pair} {x : Entry} (hk : x.kind = 1) (h : Applied s seq view x n out 0) : Applied s n out x n out 0 := by
  obtain ⟨h0, h1, h2, h3⟩ := applied_cases h
  rcases h3 with ⟨_, _, _, rfl, rfl⟩ | ⟨h3, _⟩
  · exact h
  · exact absurd hk h3
theorem applied_twice {s : List Col} {seq n : Int} {view out : List Pair} {x : Entry} (hv : Good view) (hx : Good x.pairs) (hk : x.kind ≠ 1) (h : Applied s seq view x n out 0) : Applied s n out x 0 [] 14 := by
  obtain ⟨h0, h1, h2, h3⟩ := applied_cases h
  rcases h3 with ⟨h3, _⟩ | ⟨_, h4, h5, hs⟩
  · exact absurd h3 hk
  · obtain ⟨k0, _, k2, k3, _⟩ := summed_canon hv hx hs
    obtain ⟨_, _, ⟨b1, b2⟩, _⟩ := entryCheck_facts h2
    exact .inr (.inr (.inr ⟨canon_check k2 k0 k3, by omega, h2, .inl ⟨by rw [if_neg hk]; omega, rfl, rfl, rfl⟩⟩))
theorem snoc_cases {α : Type} : ∀ (l : List α), l = [] ∨ ∃ a b, l = a ++ [b]
  | [] => .inl rfl
  | x :: l => by
    rcases snoc_cases l with rfl | ⟨a, b, rfl⟩
    · exact .inr ⟨[], x, rfl⟩
    · exact .inr ⟨x :: a, b, rfl⟩
/-- What follows a state follows it wherever it came from. -/
theorem chain_cont {s : List Col} {p q : List Entry} {m : Int} {view : List Pair} (hp : Chain s p m view) (hq : Chain s q m view) : ∀ (k : Nat) (c : List Entry) (n : Int) (out : List Pair), c.length = k → Chain s (p ++ c) n out → GoodE (p ++ c) → q.length + c.length ≤ 4096 → Chain s (q ++ c) n out
  | 0, c, n, out, hc, h, hg, hl => by
    obtain rfl := List.eq_nil_of_length_eq_zero hc
    rw [List.append_nil] at h hg ⊢
    obtain ⟨rfl, rfl⟩ := chain_det hp h hg
    exact hq
  | k + 1, c, n, out, hc, h, hg, hl => by
    rcases snoc_cases c with rfl | ⟨a, b, rfl⟩
    · simp at hc
    · rw [← List.append_assoc] at h hg ⊢
      obtain ⟨seq, view', h1, h2, h3⟩ := chain_snoc h
      rw [List.length_append] at hc hl
      simp at hc hl
      exact .snoc (chain_cont hp hq k a _ _ (by omega) h1 (fun e he => hg e (by simp at he ⊢; rcases he with h | h <;> simp [h])) (by omega)) (by rw [List.length_append]; omega) h3
/-- Entries with entry i twice. -/
def twice (es : List Entry) (i : Nat) (x : Entry) : List Entry := es.take (i + 1) ++ [x] ++ es.drop (i + 1)
theorem chain_at {s : List Col} {es : List Entry} {n : Int} {out : List Pair} {i : Nat} (h : Chain s es n out) (hi : i < es.length) : ∃ seq0 view0 seq view, Chain s (es.take i) seq0 view0 ∧ Applied s seq0 view0 es[i] seq view 0 ∧ Chain s (es.take (i + 1)) seq view ∧ i < 4096 := by
  obtain ⟨n1, out1, h1⟩ := chain_take h (i + 1)
  have h1' := h1
  rw [List.take_add_one, List.getElem?_eq_getElem hi, Option.toList_some] at h1
  obtain ⟨seq, view, k1, k2, k3⟩ := chain_snoc h1
  rw [List.length_take] at k2
  exact ⟨_, _, _, _, k1, k3, h1', by omega⟩
theorem twice_snap {s : List Col} {es : List Entry} {i : Nat} (hg : GoodE es) (h1 : Good1 s es) (hi : i < es.length) (hk : es[i].kind = 1) (hl : es.length ≤ 30) : Good1 s (twice es i es[i]) := by
  obtain ⟨h0, ⟨n, out, hch⟩, herr⟩ := h1
  obtain ⟨seq0, view0, seq, view, c1, c2, c3, _⟩ := chain_at hch hi
  have hlt : (es.take (i + 1)).length = i + 1 := by rw [List.length_take]; omega
  refine ⟨h0, ⟨n, out, ?_⟩, fun e he => ?_⟩
  · have hq := Chain.snoc c3 (by omega) (applied_snap hk c2)
    exact chain_cont c3 hq _ _ _ _ rfl (by rw [List.take_append_drop]; exact hch) (by rw [List.take_append_drop]; exact hg) (by simp; omega)
  · unfold twice at he
    rcases List.mem_append.1 he with he | he
    · rcases List.mem_append.1 he with he | he
      · exact herr e (List.mem_of_mem_take he)
      · simp at he; rw [he]; exact herr _ (List.getElem_mem hi)
    · exact herr e (List.mem_of_mem_drop he)
theorem goodE_twice {es : List Entry} {i : Nat} (hg : GoodE es) (hi : i < es.length) : GoodE (twice es i es[i]) := fun e he => by
  unfold twice at he
  rcases List.mem_append.1 he with he | he
  · rcases List.mem_append.1 he with he | he
    · exact hg e (List.mem_of_mem_take he)
    · simp at he; rw [he]; exact hg _ (List.getElem_mem hi)
  · exact hg e (List.mem_of_mem_drop he)
theorem twice_take {es : List Entry} {i k : Nat} {x : Entry} (hk : k ≤ i + 1) (hi : i < es.length) : (twice es i x).take k = es.take k := by
  have hlt : (es.take (i + 1)).length = i + 1 := by rw [List.length_take]; omega
  unfold twice
  rw [List.append_assoc, List.take_append_of_le_length (by omega), List.take_take, Nat.min_eq_left hk]
theorem twice_get {es : List Entry} {i : Nat} {x : Entry} (hi : i < es.length) : (twice es i x)[i + 1]? = some x := by
  have hlt : (es.take (i + 1)).length = i + 1 := by rw [List.length_take]; omega
  unfold twice
  rw [List.append_assoc, List.getElem?_append_right (by omega), hlt, Nat.sub_self]
  rfl
theorem twice_len {es : List Entry} {i : Nat} {x : Entry} (hi : i < es.length) : (twice es i x).length = es.length + 1 := by
  unfold twice
  simp; omega
/-- A batch twice stops at the second. -/
theorem twice_batch {s : List Col} {es : List Entry} {i : Nat} {out : List UInt8} {n ec : Int} (hg : GoodE es) (h1 : Good1 s es) (hi : i < es.length) (hk : es[i].kind ≠ 1) (hl : es.length ≤ 30) (h : Encoded s (twice es i es[i]) out n ec) : ec = 14 ∧ n = (i : Int) + 1 ∧ out = [] := by
  have h1' := h1
  obtain ⟨h0, ⟨m, view1, hch⟩, herr⟩ := h1'
  obtain ⟨seq0, view0, seq, view, c1, c2, c3, _⟩ := chain_at hch hi
  have hgi := hg _ (List.getElem_mem hi)
  have hgu := goodE_twice hg hi
  have hbad := applied_twice (chain_good c1 (hg.take i)) hgi hk c2
  have hgv := chain_good c3 (hg.take (i + 1))
  -- no run passes the second
  have hno : ∀ k n' out', i + 1 < k → ¬ Chain s ((twice es i es[i]).take k) n' out' := fun k n' out' hk hc => by
    obtain ⟨n2, out2, h2⟩ := chain_take hc (i + 2)
    rw [List.take_take, Nat.min_eq_left (by omega), List.take_add_one, twice_get hi, Option.toList_some, twice_take (Nat.le_refl _) hi] at h2
    obtain ⟨sq, vw, d1, _, d3⟩ := chain_snoc h2
    obtain ⟨rfl, rfl⟩ := chain_det c3 d1 (hg.take (i + 1))
    obtain ⟨_, _, e⟩ := applied_det hgv hgi d3 hbad
    cases e
  rcases h with ⟨h, _⟩ | ⟨⟨_, ⟨n', out', hc⟩, _⟩, _⟩ | ⟨_, hec, ho, k, hn, sq, vw, hc, herr', hkl, hf⟩
  · exact absurd h0 h
  · refine absurd ?_ (hno (twice es i es[i]).length n' out' (by rw [twice_len hi]; omega))
    rw [List.take_length]; exact hc
  · have hki : k = i + 1 := by
      refine Decidable.byContradiction fun hne => ?_
      by_cases hlt : k ≤ i
      · rw [twice_take (by omega) hi] at hc
        have hge : (twice es i es[i])[k] = es[k] := by
          have e1 : ((twice es i es[i]).take (i + 1))[k]? = (es.take (i + 1))[k]? := by rw [twice_take (Nat.le_refl _) hi]
          rw [List.getElem?_take_of_lt (by omega), List.getElem?_take_of_lt (by omega), List.getElem?_eq_getElem hkl, List.getElem?_eq_getElem (by omega)] at e1
          injection e1
        rw [hge] at hf
        exact no_fail (by omega) hg h1 hc hf
      · exact hno k _ _ (by omega) hc
    subst hki
    rw [twice_take (Nat.le_refl _) hi] at hc
    obtain ⟨rfl, rfl⟩ := chain_det c3 hc (hg.take (i + 1))
    have hge : (twice es i es[i])[i + 1] = es[i] := by
      have := twice_get (es := es) (x := es[i]) hi
      rw [List.getElem?_eq_getElem hkl] at this
      injection this
    rw [hge] at hf
    refine ⟨?_, by rw [hn]; simp, ho⟩
    rcases hf with ⟨h, _⟩ | ⟨_, _, n2, out2, h2⟩ | ⟨_, ⟨n2, out2, h2⟩, _, _⟩
    · omega
    · obtain ⟨_, _, e⟩ := applied_det hgv hgi h2 hbad
      exact e
    · obtain ⟨_, _, e⟩ := applied_det hgv hgi h2 hbad
      cases e
end Go.Proofs.YtlhdndnohmikeaaGreatDoor
