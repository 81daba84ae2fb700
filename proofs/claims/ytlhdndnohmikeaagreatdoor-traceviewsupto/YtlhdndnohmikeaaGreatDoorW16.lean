/-
  Walks: the stable sort of pairs (5): merges.
-/
import Derived.Test.YtlhdndnohmikeaaGreatDoorMW14
set_option linter.unusedVariables false
set_option linter.unusedSimpArgs false
namespace Go.Proofs.YtlhdndnohmikeaaGreatDoor
open Go.RowKit

/-- A merge's outcome. -/
def Merged (B : Nat) (cf : Elt → Elt → Int) (p uv q : List Elt) (w w' : World) : Prop := (∃ r, Arr w' B (p ++ r ++ q) ∧ r.Perm uv ∧ Sorted cf r) ∧ w.grownBy w' (some B)

theorem Sorted.nil (cf : Elt → Elt → Int) : Sorted cf [] := List.Pairwise.nil
theorem Sorted.take {cf : Elt → Elt → Int} {v : List Elt} (h : Sorted cf v) (k : Nat) : Sorted cf (v.take k) := List.Pairwise.sublist (List.take_sublist k v) h
theorem Sorted.drop {cf : Elt → Elt → Int} {v : List Elt} (h : Sorted cf v) (k : Nat) : Sorted cf (v.drop k) := List.Pairwise.sublist (List.drop_sublist k v) h
/-- The place that the search finds: what is cut off ahead is not above what is left behind. -/
structure Place (cf : Elt → Elt → Int) (u v : List Elt) (t e : Nat) : Prop where
  lo : t = 0 ∨ e = v.length ∨ ∀ x z, u[t - 1]? = some x → v[e]? = some z → 0 ≤ cf z x
  hi : e = 0 ∨ t = u.length ∨ ∀ x z, v[e - 1]? = some x → u[t]? = some z → 0 ≤ cf z x
  tu : t ≤ u.length
  ev : e ≤ v.length
theorem last_take {α : Type} {l : List α} {t : Nat} (ht : t ≤ l.length) (h0 : 0 < t) : ∃ x, l[t - 1]? = some x ∧ l.take t = l.take (t - 1) ++ [x] := by
  have : t - 1 < l.length := by omega
  refine ⟨l[t - 1], List.getElem?_eq_getElem this, ?_⟩
  have e : t = (t - 1) + 1 := by omega
  conv => lhs; rw [e]
  rw [List.take_succ_eq_append_getElem this]
theorem Place.cross {w0 : World} {B C : Nat} {cf : Elt → Elt → Int} {S : Elt → Prop} (hc : Cmp w0 B C cf S) {u v : List Elt} {t e : Nat} (h : Place cf u v t e) (hu : Sorted cf u) (hv : Sorted cf v) (hSu : ∀ x ∈ u, S x) (hSv : ∀ x ∈ v, S x) :
    ∀ x ∈ u.take t ++ v.take e, ∀ z ∈ u.drop t ++ v.drop e, 0 ≤ cf z x := by
  have hu' := hu
  unfold Sorted at hu'
  rw [← List.take_append_drop t u, List.pairwise_append] at hu'
  have hv' := hv
  unfold Sorted at hv'
  rw [← List.take_append_drop e v, List.pairwise_append] at hv'
  intro x hx z hz
  rcases List.mem_append.1 hx with hx | hx <;> rcases List.mem_append.1 hz with hz | hz
  · exact hu'.2.2 x hx z hz
  · rcases h.lo with h0 | h0 | h0
    · rw [h0] at hx; simp at hx
    · rw [h0] at hz; simp at hz
    · by_cases ht : 0 < t
      · obtain ⟨y, hy, he⟩ := last_take h.tu ht
        by_cases hev : e < v.length
        · have h1 := h0 y v[e] hy (List.getElem?_eq_getElem hev)
          have hxy : 0 ≤ cf y x := by
            rw [he] at hx
            rcases List.mem_append.1 hx with hx | hx
            · have := hu'.1
              rw [he, List.pairwise_append] at this
              exact this.2.2 x hx y (by simp)
            · simp at hx; rw [hx]; exact hc.refl _ (hSu _ (List.mem_of_getElem? hy))
          have hzy : 0 ≤ cf z v[e] := by
            rw [List.drop_eq_getElem_cons hev, List.mem_cons] at hz
            rcases hz with hz | hz
            · rw [hz]; exact hc.refl _ (hSv _ (List.getElem_mem hev))
            · exact (hv.ahead hev).2 z hz
          have Sx := hSu x (List.mem_of_mem_take hx)
          have Sy := hSu y (List.mem_of_getElem? hy)
          have Sz := hSv z (List.mem_of_mem_drop hz)
          have Se := hSv _ (List.getElem_mem hev)
          exact hc.trans x v[e] z Sx Se Sz (hc.trans x y v[e] Sx Sy Se hxy h1) hzy
        · rw [List.drop_of_length_le (by omega)] at hz; simp at hz
      · have : t = 0 := by omega
        rw [this] at hx; simp at hx
  · rcases h.hi with h0 | h0 | h0
    · rw [h0] at hx; simp at hx
    · rw [h0] at hz; simp at hz
    · by_cases ht : 0 < e
      · obtain ⟨y, hy, he⟩ := last_take h.ev ht
        by_cases hev : t < u.length
        · have h1 := h0 y u[t] hy (List.getElem?_eq_getElem hev)
          have hxy : 0 ≤ cf y x := by
            rw [he] at hx
            rcases List.mem_append.1 hx with hx | hx
            · have := hv'.1
              rw [he, List.pairwise_append] at this
              exact this.2.2 x hx y (by simp)
            · simp at hx; rw [hx]; exact hc.refl _ (hSv _ (List.mem_of_getElem? hy))
          have hzy : 0 ≤ cf z u[t] := by
            rw [List.drop_eq_getElem_cons hev, List.mem_cons] at hz
            rcases hz with hz | hz
            · rw [hz]; exact hc.refl _ (hSu _ (List.getElem_mem hev))
            · exact (hu.ahead hev).2 z hz
          have Sx := hSv x (List.mem_of_mem_take hx)
          have Sy := hSv y (List.mem_of_getElem? hy)
          have Sz := hSu z (List.mem_of_mem_drop hz)
          have Se := hSu _ (List.getElem_mem hev)
          exact hc.trans x u[t] z Sx Se Sz (hc.trans x y u[t] Sx Sy Se hxy h1) hzy
        · rw [List.drop_of_length_le (by omega)] at hz; simp at hz
      · have : e = 0 := by omega
        rw [this] at hx; simp at hx
  · exact hv'.2.2 x hx z hz

end Go.Proofs.YtlhdndnohmikeaaGreatDoor
