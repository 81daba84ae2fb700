/-
  Plain: what applying comes to is one thing; prefixes of what can be written.
-/
import Derived.Test.YtlhdndnohmikeaaGreatDoorP1
import Derived.Test.YtlhdndnohmikeaaGreatDoorMW41
set_option linter.unusedVariables false
set_option linter.unusedSimpArgs false
namespace Go.Proofs.YtlhdndnohmikeaaGreatDoor
open Go.RowKit

theorem sl_good {w : World} {F : Nat → Prop} {v : Value} {l : List Pair} (h : SL pairK w F v l) : Good l := by
  obtain ⟨A, c, rfl, _, _⟩ := h.form
  intro p hp
  obtain ⟨i, hi, rfl⟩ := List.getElem_of_mem hp
  obtain ⟨ad, r, _, _, _, _, hr, hw⟩ := pair_at h hi
  refine ⟨fun x hx => ?_, hw⟩
  obtain ⟨B, d, rfl, _, _⟩ := hr.form
  obtain ⟨j, hj, rfl⟩ := List.getElem_of_mem hx
  obtain ⟨_, _, _, _, _, hu, _⟩ := cell_at hr hj
  exact hu
def GoodE (es : List Entry) : Prop := ∀ e ∈ es, Good e.pairs
theorem sl_goodE {w : World} {F : Nat → Prop} {v : Value} {l : List Entry} (h : SL entryK w F v l) : GoodE l := by
  obtain ⟨A, c, rfl, _, _⟩ := h.form
  intro p hp
  obtain ⟨i, hi, rfl⟩ := List.getElem_of_mem hp
  obtain ⟨ad, r, _, _, _, _, _, hr, _⟩ := entry_at h hi
  exact sl_good hr
theorem GoodE.take {es : List Entry} (h : GoodE es) (k : Nat) : GoodE (es.take k) := fun e he => h e (List.mem_of_mem_take he)
theorem collected_good {s : List Col} {l out : List Pair} (hg : Good l) (h : Collected s l out 0) : Good out := by
  have h' := h
  rcases h with ⟨h0, a, b⟩ | ⟨_, h0, a, b⟩ | ⟨h0, h1, _⟩
  · rw [a]; intro p hp; cases hp
  · rw [a]; intro p hp; cases hp
  · rcases collected_ok hg h0 h1 h' with ⟨_, a, b⟩ | ⟨hf, c, hc, hw, ho⟩
    · cases b
    · have : out = c := by
        unfold fin1 at ho
        split at ho
        · injection ho with _ e; cases e
        · injection ho
      subst this
      exact fun p hp => ⟨(hc.ok p hp).2, by
        have := hf p.row
        rw [← hw, hc.wOf_mem p hp] at this
        simpa [fits, I64] using this⟩
theorem applied_good {s : List Col} {seq n : Int} {view out : List Pair} {e : Entry} (hv : Good view) (he : Good e.pairs) (h : Applied s seq view e n out 0) : Good out := by
  rcases h with ⟨_, _, h, _⟩ | ⟨_, _, _, h, _⟩ | ⟨_, _, _, _, h, _⟩ | ⟨_, _, _, h⟩
  · rw [h]; intro p hp; cases hp
  · rw [h]; intro p hp; cases hp
  · rw [h]; intro p hp; cases hp
  · rcases h with ⟨_, _, h, _⟩ | ⟨_, _, _, _, h, _⟩ | ⟨_, _, _, _, h, _⟩ | ⟨_, _, sum, bad, hs, h⟩
    · rw [h]; intro p hp; cases hp
    · rw [h]; intro p hp; cases hp
    · rw [h]; exact hv
    · rcases h with ⟨_, _, h, _⟩ | ⟨rfl, _, h, _⟩
      · rw [h]; intro p hp; cases hp
      · rw [h]
        rcases hs with ⟨_, a, _⟩ | ⟨_, hc⟩
        · rw [a]; intro p hp; cases hp
        · exact collected_good (hv.append he) hc
theorem applied_det {s : List Col} {seq n n' : Int} {view out out' : List Pair} {e : Entry} {ec ec' : Int} (hv : Good view) (he : Good e.pairs) (h : Applied s seq view e n out ec) (h' : Applied s seq view e n' out' ec') : n = n' ∧ out = out' ∧ ec = ec' := by
  rcases h with ⟨a, b1, b2, b3⟩ | ⟨a, a1, b1, b2, b3⟩ | ⟨a, a1, a2, b1, b2, b3⟩ | ⟨a, a1, a2, h⟩ <;> rcases h' with ⟨c, d1, d2, d3⟩ | ⟨c, c1, d1, d2, d3⟩ | ⟨c, c1, c2, d1, d2, d3⟩ | ⟨c, c1, c2, h'⟩ <;> first
    | exact ⟨b1.trans d1.symm, b2.trans d2.symm, b3.trans d3.symm⟩
    | exact absurd c a
    | exact absurd a c
    | exact absurd a1 c1
    | exact absurd c1 a1
    | exact absurd c2 a2
    | exact absurd a2 c2
    | skip
  have hk : ∀ {p q : Prop}, p → ¬ p → q := fun h n => absurd h n
  rcases h with ⟨g, b1, b2, b3⟩ | ⟨k1, g, ne, b1, b2, b3⟩ | ⟨k1, g, eq, b1, b2, b3⟩ | ⟨k1, g, sum, bad, hs, h⟩ <;> rcases h' with ⟨g', d1, d2, d3⟩ | ⟨k1', g', ne', d1, d2, d3⟩ | ⟨k1', g', eq', d1, d2, d3⟩ | ⟨k1', g', sum', bad', hs', h'⟩ <;> first
    | exact ⟨b1.trans d1.symm, b2.trans d2.symm, b3.trans d3.symm⟩
    | (rw [if_pos k1'] at g; exact absurd g' g)
    | (rw [if_neg k1'] at g; exact absurd g' g)
    | (rw [if_pos k1] at g'; exact absurd g g')
    | (rw [if_neg k1] at g'; exact absurd g g')
    | exact absurd eq' ne
    | exact absurd eq ne'
    | exact absurd k1 k1'
    | exact absurd k1' k1
    | skip
  obtain ⟨rfl, rfl⟩ := summed_same hv he hs hs'
  rcases h with ⟨x, b1, b2, b3⟩ | ⟨x, b1, b2, b3⟩ <;> rcases h' with ⟨y, d1, d2, d3⟩ | ⟨y, d1, d2, d3⟩ <;> first
    | exact ⟨b1.trans d1.symm, b2.trans d2.symm, b3.trans d3.symm⟩
    | exact absurd y x
    | exact absurd x y
theorem chain_snoc {s : List Col} {es : List Entry} {e : Entry} {n : Int} {out : List Pair} (h : Chain s (es ++ [e]) n out) : ∃ seq view, Chain s es seq view ∧ es.length < 4096 ∧ Applied s seq view e n out 0 := by
  generalize hl : es ++ [e] = l at h
  cases h with
  | nil => simp at hl
  | snoc h1 h2 h3 =>
    obtain ⟨rfl, h⟩ := List.append_inj' hl rfl
    injection h with h
    subst h
    exact ⟨_, _, h1, h2, h3⟩
theorem chain_good {s : List Col} {es : List Entry} {n : Int} {out : List Pair} (h : Chain s es n out) (hg : GoodE es) : Good out := by
  induction h with
  | nil => intro p hp; cases hp
  | snoc h1 h2 h3 ih => exact applied_good (ih fun e he => hg e (by simp [he])) (hg _ (by simp)) h3
theorem chain_det {s : List Col} {es : List Entry} {n n' : Int} {out out' : List Pair} (h : Chain s es n out) (h' : Chain s es n' out') (hg : GoodE es) : n = n' ∧ out = out' := by
  induction h generalizing n' out' with
  | nil =>
    generalize hl : ([] : List Entry) = l at h'
    cases h' with
    | nil => exact ⟨rfl, rfl⟩
    | snoc _ _ _ => simp at hl
  | snoc h1 h2 h3 ih =>
    obtain ⟨seq, view, k1, _, k3⟩ := chain_snoc h'
    obtain ⟨rfl, rfl⟩ := ih k1 fun e he => hg e (by simp [he])
    obtain ⟨a, b, _⟩ := applied_det (chain_good h1 fun e he => hg e (by simp [he])) (hg _ (by simp)) h3 k3
    exact ⟨a, b⟩
theorem chain_take {s : List Col} {es : List Entry} {n : Int} {out : List Pair} (h : Chain s es n out) : ∀ k, ∃ n' out', Chain s (es.take k) n' out' := by
  induction h with
  | nil => exact fun k => ⟨_, _, by rw [List.take_nil]; exact .nil⟩
  | @snoc es seq view e n out h1 h2 h3 ih =>
    intro k
    by_cases hk : k ≤ es.length
    · rw [List.take_append_of_le_length hk]; exact ih k
    · exact ⟨_, _, by rw [List.take_of_length_le (by simp; omega)]; exact .snoc h1 h2 h3⟩
/-- An entry that went through doesn't fail. -/
theorem no_fail {s : List Col} {es : List Entry} {k : Nat} {seq ec : Int} {view : List Pair} (hk : k < es.length) (hg : GoodE es) (h1 : Good1 s es) (hc : Chain s (es.take k) seq view) : ¬ Fails s k seq view es[k] ec := by
  obtain ⟨_, ⟨n, out, hch⟩, herr⟩ := h1
  obtain ⟨n1, out1, h⟩ := chain_take hch (k + 1)
  rw [List.take_add_one, List.getElem?_eq_getElem hk, Option.toList_some] at h
  obtain ⟨seq', view', k1, k2, k3⟩ := chain_snoc h
  obtain ⟨rfl, rfl⟩ := chain_det hc k1 (hg.take k)
  rw [List.length_take] at k2
  rintro (⟨h, _⟩ | ⟨_, h0, n2, out2, h2⟩ | ⟨_, _, h, h0⟩)
  · omega
  · obtain ⟨_, _, e⟩ := applied_det (chain_good hc (hg.take k)) (hg _ (List.getElem_mem hk)) h2 k3
    exact h0 e
  · exact h0 (h.trans (herr _ (List.getElem_mem hk)))
theorem good1_take {s : List Col} {es : List Entry} (h : Good1 s es) (k : Nat) : Good1 s (es.take k) := by
  obtain ⟨a, ⟨n, out, hch⟩, herr⟩ := h
  obtain ⟨n1, out1, h⟩ := chain_take hch k
  exact ⟨a, ⟨_, _, h⟩, fun e he => herr e (List.mem_of_mem_take he)⟩
/-- What can be written is written. -/
theorem encoded_good {s : List Col} {es : List Entry} {out : List UInt8} {n ec : Int} (hg : GoodE es) (h1 : Good1 s es) (h : Encoded s es out n ec) : ec = 0 ∧ n = es.length ∧ out = traceBytes s es := by
  rcases h with ⟨h, _⟩ | ⟨_, h⟩ | ⟨_, _, _, k, _, seq, view, hc, _, hk, hf⟩
  · exact absurd h1.1 h
  · exact h
  · exact absurd hf (no_fail hk hg h1 hc)
theorem traceBytes_take (s : List Col) (es : List Entry) (k : Nat) : traceBytes s es = traceBytes s (es.take k) ++ bodyBytes s (es.drop k) := by
  unfold traceBytes bodyBytes
  rw [List.append_assoc, ← List.flatMap_append, List.take_append_drop]
/-- Written without an error: it can be written. -/
theorem encoded_ok {s : List Col} {es : List Entry} {out : List UInt8} {n : Int} (h : Encoded s es out n 0) : Good1 s es ∧ n = es.length ∧ out = traceBytes s es := by
  rcases h with ⟨h, _, _, e⟩ | ⟨h1, _, h⟩ | ⟨_, h, _⟩
  · exact absurd e.symm h
  · exact ⟨h1, h⟩
  · exact absurd rfl h
end Go.Proofs.YtlhdndnohmikeaaGreatDoor
