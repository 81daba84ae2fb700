/-
  Walks: names that were seen; what is wrong with a schema, and with a row.
  Walks: copies (slices.Clone), and the kinds' names.
-/
import Derived.Test.YtlhdndnohmikeaaGreatDoorW2
import Derived.Maps.OwnSet
import Derived.Maps.Own
import Derived.Maps.Views
set_option linter.unusedVariables false
set_option linter.unusedSimpArgs false
namespace Go.Proofs.YtlhdndnohmikeaaGreatDoor
open Go.RowKit Go.Maps

def memB (s : ByteArray) (l : List ByteArray) : Bool := l.any fun t => decide (t = s)
theorem zeroBool (w : World) : (zeroValue 4).run Tryz.prog w = .ok (.bool false) w := by kernel_rfl
theorem keyStr {s : ByteArray} (hs : s.size ≤ maxLen) : keyOf Tryz.prog 9 (.string s) = some (.string s.data.toList) := WideMaps.keyOf_string_mk Tryz.underlying9 hs
/-- Block b is a map of names to bools, in which just the names of l are true. -/
def SeenAt (w : World) (b : Nat) (l : List ByteArray) : Prop :=
  ∃ (n : Nat) (D : DataW Unit), w.ownsMap Tryz.prog 9 (plainElem Tryz.prog 4) b n D ∧ n ≤ l.length ∧ ∀ s : ByteArray, D.atKey (.string s.data.toList) (.lit (.bool false)) = .lit (.bool (memB s l))
theorem SeenAt.made (w : World) : SeenAt (w.alloc (.map #[] 0)) w.heap.size [] :=
  ⟨0, _, World.ownsMap_made w _ _ _, Nat.le_refl _, fun s => by simp [DataW.atKey, memB]⟩
section
variable {w w' : World} {b : Nat} {l : List ByteArray}
theorem SeenAt.lt (h : SeenAt w b l) : b < w.heap.size := by obtain ⟨n, D, h1, _⟩ := h; exact h1.lt
theorem SeenAt.kept {row : Option Nat} (h : SeenAt w b l) (hg : w.grownBy w' row) (hne : some b ≠ row) : SeenAt w' b l := by
  obtain ⟨n, D, h1, h2, h3⟩ := h
  exact ⟨n, D, h1.kept hg hne, h2, h3⟩
theorem grown_of_below {a w : World} (h : Below a.heap.size a w) (row : Option Nat) : a.grownBy w row := ⟨h.os, h.tape, h.output, h.size, fun i hi _ => h.block i hi⟩
theorem SeenAt.below (h : SeenAt w b l) (hb : Below w.heap.size w w') : SeenAt w' b l := h.kept (grown_of_below hb none) (by simp)
theorem dataStr {s t : ByteArray} : Lit.string s.data.toList = Lit.string t.data.toList ↔ s = t := by
  constructor
  · intro h
    obtain ⟨⟨x⟩⟩ := s
    obtain ⟨⟨y⟩⟩ := t
    injection h with h
    simp at h
    rw [h]
  · intro h
    rw [h]
set_option maxRecDepth 100000 in
theorem SeenAt.look (h : SeenAt w b l) (s : ByteArray) (hs : s.size ≤ maxLen) :
    (Instr.lookup 187 (.map (some b)) (.string s) false).run Tryz.prog w = .ok (.bool (memB s l)) w := by
  obtain ⟨n, D, h1, h2, h3⟩ := h
  obtain ⟨v, ps, hrun, hv⟩ := h1.lookup (string_keyed Tryz.underlying9) Tryz.underlying187 (zeroBool w) (plainElem_bool Tryz.underlying4 false) (keyStr hs)
  rw [h3 s] at hv
  rw [hrun]
  congr 1
  unfold plainElem at hv
  simp only [Tryz.underlying4] at hv
  cases v <;> simp at hv
  rw [hv.1]
theorem SeenAt.put {n : Nat} {D : DataW Unit} {s : ByteArray} (h1 : w.ownsMap Tryz.prog 9 (plainElem Tryz.prog 4) b n D) (h2 : n ≤ l.length) (h3 : ∀ s : ByteArray, D.atKey (.string s.data.toList) (.lit (.bool false)) = .lit (.bool (memB s l)))
    (hs : s.size ≤ maxLen) (h : w'.ownsMap Tryz.prog 9 (plainElem Tryz.prog 4) b (n + 1) (D.put (.string s.data.toList) (.lit (.bool true)))) : SeenAt w' b (s :: l) := by
  refine ⟨n + 1, _, h, by simp; omega, fun u => ?_⟩
  by_cases e : s = u
  · subst e
    rw [atKey_put_same h1.isMap ((string_keyed Tryz.underlying9).key (keyStr hs))]
    simp [memB]
  · rw [atKey_put_other (fun h => e (dataStr.1 h).symm), h3 u]
    simp [memB, e]
end

def nameB (s : ByteArray) : Bool := !emptyB s && emptyB (trimmed s)

set_option maxHeartbeats 400000 in
set_option maxRecDepth 100000 in
theorem seenTake_calls (b : Nat) (l : List ByteArray) (s : ByteArray) (w : World) (hm : SeenAt w b l) (hs : s.size ≤ maxLen) (hl : l.length < 1000) :
    Calls Tryz.prog 117 #[.map (some b), .string s] w fun e w' => e = .returned (.bool (nameB s && !memB s l)) ∧ SeenAt w' b (s :: l) ∧ w.grownBy w' (some b) := by
  have hup : ∀ (W : World), SeenAt W b l → w.grownBy W (some b) → ∃ (n : Nat) (D : DataW Unit), W.ownsMap Tryz.prog 9 (plainElem Tryz.prog 4) b n D ∧ n < maxLen ∧ ∀ w', w'.ownsMap Tryz.prog 9 (plainElem Tryz.prog 4) b (n + 1) (D.put (.string s.data.toList) (.lit (.bool true))) → W.grownBy w' (some b) → SeenAt w' b (s :: l) ∧ w.grownBy w' (some b) := by
    rintro W ⟨n, D, h1, h2, h3⟩ hg
    exact ⟨n, D, h1, by unfold maxLen; omega, fun w' h hg' => ⟨SeenAt.put h1 h2 h3 hs h, hg.trans hg'⟩⟩
  have HUP := Lib.hid hup
  clear hup
  cases h0 : s.toList.isEmpty
  · obtain ⟨r, hr⟩ : ∃ r, trimmed s = r := ⟨_, rfl⟩
    have ht : ∀ W : World, Calls Tryz.prog 152 #[.string s, .string ⟨#[97, 98, 99, 100, 101, 102, 103, 104, 105, 106, 107, 108, 109, 110, 111, 112, 113, 114, 115, 116, 117, 118, 119, 120, 121, 122, 48, 49, 50, 51, 52, 53, 54, 55, 56, 57, 95]⟩] W fun e w' => e = .returned (.string r) ∧ Below W.heap.size W w' := fun W => hr ▸ trim_calls s W hs
    have HT := Lib.hid ht
    clear ht
    cases h1 : r.toList.isEmpty
    · have HF : Hid ((nameB s && !memB s l) = false) := by show _ = _; simp [nameB, emptyB, h0, hr, h1]
      clear hr
      go_enter Tryz.func117, Tryz.ntmps117
      go_wp2_with (first | (go_at_call 152; refine (HT.out _).mono ?_; rintro e w1 ⟨rfl, hb⟩; obtain ⟨n, D, g1, g2, g3⟩ := HUP.out w1 (hm.below hb) (grown_of_below hb _)) | (at_mapUpdate; refine wpList_mapUpdate_own _ rfl _ _ _ 187 rfl 9 4 (string_keyed Tryz.underlying9) Tryz.underlying187 _ b n D rfl g1 g2 _ _ _ rfl rfl (keyStr hs) _ [] (plainElem_bool Tryz.underlying4 true) ?_; intro w2 hown1 hgrow1))
      go_ret
      exact ⟨ret_bool HF.out.symm, g3 _ hown1 hgrow1⟩
    · have HF : Hid ((nameB s && !memB s l) = !memB s l) := by show _ = _; simp [nameB, emptyB, h0, hr, h1]
      clear hr
      go_enter Tryz.func117, Tryz.ntmps117
      go_wp2_with (first | (go_at_call 152; refine (HT.out _).mono ?_; rintro e w1 ⟨rfl, hb⟩; have hlk := (hm.below hb).look s hs; obtain ⟨n, D, g1, g2, g3⟩ := HUP.out w1 (hm.below hb) (grown_of_below hb _)) | (at_mapUpdate; refine wpList_mapUpdate_own _ rfl _ _ _ 187 rfl 9 4 (string_keyed Tryz.underlying9) Tryz.underlying187 _ b n D rfl g1 g2 _ _ _ rfl rfl (keyStr hs) _ [] (plainElem_bool Tryz.underlying4 true) ?_; intro w2 hown1 hgrow1))
      go_ret
      exact ⟨ret_bool HF.out.symm, g3 _ hown1 hgrow1⟩
  · have HF : Hid ((nameB s && !memB s l) = false) := by show _ = _; simp [nameB, emptyB, h0]
    obtain ⟨n, D, g1, g2, g3⟩ := HUP.out w hm (World.grownBy.refl w _)
    go_enter Tryz.func117, Tryz.ntmps117
    go_wp2_with (at_mapUpdate; refine wpList_mapUpdate_own _ rfl _ _ _ 187 rfl 9 4 (string_keyed Tryz.underlying9) Tryz.underlying187 _ b n D rfl g1 g2 _ _ _ rfl rfl (keyStr hs) _ [] (plainElem_bool Tryz.underlying4 true) ?_; intro w2 hown1 hgrow1)
    go_ret
    exact ⟨ret_bool HF.out.symm, g3 _ hown1 hgrow1⟩
end Go.Proofs.YtlhdndnohmikeaaGreatDoor

set_option linter.unusedVariables false
set_option linter.unusedSimpArgs false
namespace Go.Proofs.YtlhdndnohmikeaaGreatDoor
open Go.RowKit

def strK : Kind ByteArray := flat 1 (by omega) (fun s => [.string s]) (fun _ => True) (fun _ => rfl) (fun x u hu => by simp at hu; subst hu; rfl)
theorem SL.none_nil {α : Type} {d : Kind α} {w : World} {F : Nat → Prop} {n c : Nat} {xs : List α} (h : SL d w F (.slice none n c) xs) : xs = [] := by
  rcases xs with _ | ⟨x, xs⟩
  · rfl
  · obtain ⟨ad, c', cs, e, _⟩ := h.at_ (i := 0) (x := x) rfl
    injection e with e
    cases e
set_option maxHeartbeats 400000 in
set_option maxRecDepth 100000 in
theorem cloneStr_calls (xs : List ByteArray) (v : Value) (w : World) (F : Nat → Prop) (hs : SL strK w F v xs) (hn : xs.length ≤ 1099511627776) :
    Calls Tryz.prog 191 #[v] w fun e w' => (∃ v', e = .returned v' ∧ Own strK 9 w' w.heap.size (fun _ => False) v' xs) ∧ Below w.heap.size w w' := by
  obtain ⟨A, c, rfl, _, _⟩ := hs.form
  rcases A with _ | ad
  · have hx := hs.none_nil
    subst hx
    have hnil := fun W : World => Lib.run_eql_slice_nil (P := Tryz.prog) W 234 9 none 0 c 0 0 Tryz.underlying234
    go_enter Tryz.func191, Tryz.ntmps191
    go_wp2
    go_ret
    exact ⟨⟨_, rfl, Own.nil _ _ _ _ _⟩, Below.refl _ _⟩
  · have hnil := fun W : World => Lib.run_eql_slice_nil (P := Tryz.prog) W 234 9 (some ad) xs.length c 0 0 Tryz.underlying234
    have hs1 : SL strK (w.alloc (.cells #[] 9)) (fun k => F k ∧ k < w.heap.size) (.slice (some ad) xs.length c) xs := hs.since (bel_alloc (Below.refl _ _) _)
    have ho : Own strK 9 (w.alloc (.cells #[] 9)) w.heap.size (fun k => F k ∧ k < w.heap.size) (.slice (some ⟨w.heap.size, 0, none⟩) 0 0) [] := Own.empty _ _ _ _ _ (Nat.le_refl _) (by simp)
    go_enter Tryz.func191, Tryz.ntmps191
    go_wp2_with (at_builtin; refine wpList_append_sl strK elemStr rfl _ _ 234 rfl Tryz.underlying234 rfl ho rfl hs1 flatF flatF (by simp only [maxLen, List.length_nil]; omega) (by simp only [List.length_nil]; omega) (by simp) ?_; rintro v' w' ⟨hown, hg, hat⟩)
    go_ret
    refine ⟨⟨_, rfl, own_flat hown⟩, bel_grown (bel_alloc (Below.refl _ _) _) hg (fun k hk => by injection hk with hk; exact Nat.le_of_eq hk)⟩

set_option maxHeartbeats 400000 in
set_option maxRecDepth 100000 in
theorem cloneCol_calls (xs : List Col) (v : Value) (w : World) (F : Nat → Prop) (hs : SL colK w F v xs) (hn : xs.length ≤ 1099511627776) :
    Calls Tryz.prog 53 #[v] w fun e w' => (∃ v', e = .returned v' ∧ Own colK 87 w' w.heap.size (fun _ => False) v' xs) ∧ Below w.heap.size w w' := by
  obtain ⟨A, c, rfl, _, _⟩ := hs.form
  rcases A with _ | ad
  · have hx := hs.none_nil
    subst hx
    have hnil := fun W : World => Lib.run_eql_slice_nil (P := Tryz.prog) W 22 87 none 0 c 0 0 Tryz.underlying22
    go_enter Tryz.func53, Tryz.ntmps53
    go_wp2
    go_ret
    exact ⟨⟨_, rfl, Own.nil _ _ _ _ _⟩, Below.refl _ _⟩
  · have hnil := fun W : World => Lib.run_eql_slice_nil (P := Tryz.prog) W 22 87 (some ad) xs.length c 0 0 Tryz.underlying22
    have hs1 : SL colK (w.alloc (.cells #[] 87)) (fun k => F k ∧ k < w.heap.size) (.slice (some ad) xs.length c) xs := hs.since (bel_alloc (Below.refl _ _) _)
    have ho : Own colK 87 (w.alloc (.cells #[] 87)) w.heap.size (fun k => F k ∧ k < w.heap.size) (.slice (some ⟨w.heap.size, 0, none⟩) 0 0) [] := Own.empty _ _ _ _ _ (Nat.le_refl _) (by simp)
    go_enter Tryz.func53, Tryz.ntmps53
    go_wp2_with (at_builtin; refine wpList_append_sl colK elemCol rfl _ _ 22 rfl Tryz.underlying22 rfl ho rfl hs1 flatF flatF (by simp only [maxLen, List.length_nil]; omega) (by simp only [List.length_nil]; omega) (by simp) ?_; rintro v' w' ⟨hown, hg, hat⟩)
    go_ret
    refine ⟨⟨_, rfl, own_flat hown⟩, bel_grown (bel_alloc (Below.refl _ _) _) hg (fun k hk => by injection hk with hk; exact Nat.le_of_eq hk)⟩

set_option maxHeartbeats 400000 in
set_option maxRecDepth 100000 in
theorem cloneCell_calls (xs : List Cell) (v : Value) (w : World) (F : Nat → Prop) (hs : SL cellK w F v xs) (hn : xs.length ≤ 1099511627776) :
    Calls Tryz.prog 78 #[v] w fun e w' => (∃ v', e = .returned v' ∧ Own cellK 90 w' w.heap.size (fun _ => False) v' xs) ∧ Below w.heap.size w w' := by
  obtain ⟨A, c, rfl, _, _⟩ := hs.form
  rcases A with _ | ad
  · have hx := hs.none_nil
    subst hx
    have hnil := fun W : World => Lib.run_eql_slice_nil (P := Tryz.prog) W 92 90 none 0 c 0 0 Tryz.underlying92
    go_enter Tryz.func78, Tryz.ntmps78
    go_wp2
    go_ret
    exact ⟨⟨_, rfl, Own.nil _ _ _ _ _⟩, Below.refl _ _⟩
  · have hnil := fun W : World => Lib.run_eql_slice_nil (P := Tryz.prog) W 92 90 (some ad) xs.length c 0 0 Tryz.underlying92
    have hs1 : SL cellK (w.alloc (.cells #[] 90)) (fun k => F k ∧ k < w.heap.size) (.slice (some ad) xs.length c) xs := hs.since (bel_alloc (Below.refl _ _) _)
    have ho : Own cellK 90 (w.alloc (.cells #[] 90)) w.heap.size (fun k => F k ∧ k < w.heap.size) (.slice (some ⟨w.heap.size, 0, none⟩) 0 0) [] := Own.empty _ _ _ _ _ (Nat.le_refl _) (by simp)
    go_enter Tryz.func78, Tryz.ntmps78
    go_wp2_with (at_builtin; refine wpList_append_sl cellK elemCell rfl _ _ 92 rfl Tryz.underlying92 rfl ho rfl hs1 flatF flatF (by simp only [maxLen, List.length_nil]; omega) (by simp only [List.length_nil]; omega) (by simp) ?_; rintro v' w' ⟨hown, hg, hat⟩)
    go_ret
    refine ⟨⟨_, rfl, own_flat hown⟩, bel_grown (bel_alloc (Below.refl _ _) _) hg (fun k hk => by injection hk with hk; exact Nat.le_of_eq hk)⟩

set_option maxHeartbeats 400000 in
set_option maxRecDepth 100000 in
theorem cloneByte_calls (xs : List UInt8) (v : Value) (w : World) (F : Nat → Prop) (hs : SL byteK w F v xs) (hn : xs.length ≤ 1099511627776) :
    Calls Tryz.prog 98 #[v] w fun e w' => (∃ v', e = .returned v' ∧ Own byteK 5 w' w.heap.size (fun _ => False) v' xs) ∧ Below w.heap.size w w' := by
  obtain ⟨A, c, rfl, _, _⟩ := hs.form
  rcases A with _ | ad
  · have hx := hs.none_nil
    subst hx
    have hnil := fun W : World => Lib.run_eql_slice_nil (P := Tryz.prog) W 36 5 none 0 c 0 0 Tryz.underlying36
    go_enter Tryz.func98, Tryz.ntmps98
    go_wp2
    go_ret
    exact ⟨⟨_, rfl, Own.nil _ _ _ _ _⟩, Below.refl _ _⟩
  · have hnil := fun W : World => Lib.run_eql_slice_nil (P := Tryz.prog) W 36 5 (some ad) xs.length c 0 0 Tryz.underlying36
    have hs1 : SL byteK (w.alloc (.cells #[] 5)) (fun k => F k ∧ k < w.heap.size) (.slice (some ad) xs.length c) xs := hs.since (bel_alloc (Below.refl _ _) _)
    have ho : Own byteK 5 (w.alloc (.cells #[] 5)) w.heap.size (fun k => F k ∧ k < w.heap.size) (.slice (some ⟨w.heap.size, 0, none⟩) 0 0) [] := Own.empty _ _ _ _ _ (Nat.le_refl _) (by simp)
    go_enter Tryz.func98, Tryz.ntmps98
    go_wp2_with (at_builtin; refine wpList_append_sl byteK elemByte rfl _ _ 36 rfl Tryz.underlying36 rfl ho rfl hs1 flatF flatF (by simp only [maxLen, List.length_nil]; omega) (by simp only [List.length_nil]; omega) (by simp) ?_; rintro v' w' ⟨hown, hg, hat⟩)
    go_ret
    refine ⟨⟨_, rfl, own_flat hown⟩, bel_grown (bel_alloc (Below.refl _ _) _) hg (fun k hk => by injection hk with hk; exact Nat.le_of_eq hk)⟩

set_option maxHeartbeats 400000 in
set_option maxRecDepth 100000 in
theorem clonePair_calls (xs : List Pair) (v : Value) (w : World) (F : Nat → Prop) (hs : SL pairK w F v xs) (hn : xs.length ≤ 1099511627776) :
    Calls Tryz.prog 71 #[v] w fun e w' => (∃ v', e = .returned v' ∧ Own pairK 94 w' w.heap.size (fun k => F k ∧ k < w.heap.size) v' xs) ∧ Below w.heap.size w w' := by
  obtain ⟨A, c, rfl, _, _⟩ := hs.form
  rcases A with _ | ad
  · have hx := hs.none_nil
    subst hx
    have hnil := fun W : World => Lib.run_eql_slice_nil (P := Tryz.prog) W 33 94 none 0 c 0 0 Tryz.underlying33
    go_enter Tryz.func71, Tryz.ntmps71
    go_wp2
    go_ret
    exact ⟨⟨_, rfl, Own.nil _ _ _ _ _⟩, Below.refl _ _⟩
  · have hnil := fun W : World => Lib.run_eql_slice_nil (P := Tryz.prog) W 33 94 (some ad) xs.length c 0 0 Tryz.underlying33
    have hs1 : SL pairK (w.alloc (.cells #[] 94)) (fun k => F k ∧ k < w.heap.size) (.slice (some ad) xs.length c) xs := hs.since (bel_alloc (Below.refl _ _) _)
    have ho : Own pairK 94 (w.alloc (.cells #[] 94)) w.heap.size (fun k => F k ∧ k < w.heap.size) (.slice (some ⟨w.heap.size, 0, none⟩) 0 0) [] := Own.empty _ _ _ _ _ (Nat.le_refl _) (by simp)
    go_enter Tryz.func71, Tryz.ntmps71
    go_wp2_with (at_builtin; refine wpList_append_sl pairK elemPair rfl _ _ 33 rfl Tryz.underlying33 rfl ho rfl hs1 (deepF (fun k hk hF => by injection hk with hk; have h2 := hF.2; simp only at hk; omega) (fun _ h => h)) (deepF (fun k hk hF => by injection hk with hk; have h2 := hF.2; simp only at hk; omega) (fun _ h => h)) (by simp only [maxLen, List.length_nil]; omega) (by simp only [List.length_nil]; omega) (by simp) ?_; rintro v' w' ⟨hown, hg, hat⟩)
    go_ret
    refine ⟨⟨_, rfl, by simpa using hown⟩, bel_grown (bel_alloc (Below.refl _ _) _) hg (fun k hk => by injection hk with hk; exact Nat.le_of_eq hk)⟩
end Go.Proofs.YtlhdndnohmikeaaGreatDoor
