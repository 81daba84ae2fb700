/-
  append, make and conversions, onto rows of the call's own, by kinds of elements.
-/
import Derived.Test.YtlhdndnohmikeaaGreatDoorBase
set_option linter.unusedVariables false
set_option linter.unusedSimpArgs false
namespace Go.Proofs.YtlhdndnohmikeaaGreatDoor
open Go.RowKit

section
variable {P : Program} (w : World)
theorem run_append_of_nil (base : Nat) (t ty e : TypeId) (i : TypeInfo) (size : Nat) (ht : P.underlying t = some (.slice e)) (hi : P.info? e = some i)
    (v : Value) (n : Nat) (xs : List Value) (hown : w.ownsRow base e size v n xs) (c : Nat) : (Builtin.append_ #[t, t] ty #[v, .slice none 0 c]).run P w = .ok v w := by
  rcases hown.2 with ⟨rfl, rfl⟩ | ⟨g, cap, cur, rfl, _, _, hnc, _⟩
  · simp [Builtin.append_, run_underlying ht, sizeOf, typeInfo, hi, Builtin.lenOf, Builtin.firstCells]
  · simp [Builtin.append_, run_underlying ht, sizeOf, typeInfo, hi, Builtin.lenOf, Builtin.firstCells, hnc, storeCells]

theorem run_append_any (base : Nat) (t ty e : TypeId) (i : TypeInfo) (z : Value) (size bytes : Nat) (ht : P.underlying t = some (.slice e)) (hi : P.info? e = some i) (hz : i.zero = some z)
    (hsize : i.size = size) (hby : i.bytes = bytes) (hzs : z.cells.size = size) (hsz : 0 < size)
    (v : Value) (n : Nat) (xs : List Value) (hown : w.ownsRow base e size v n xs)
    (G : Nat → Prop) (A : Option Addr) (m c : Nat) (news : List Value) (hl : news.length = m * size) (hr : Cs w G A news) (h1 : ∀ u ∈ news, u.oneCell' = true)
    (h63 : n + m ≤ maxLen) (hbytes : (n + m) * bytes ≤ 140737488355328) (hbase : base ≤ w.heap.size) :
    ∃ v' w', (Builtin.append_ #[t, t] ty #[v, .slice A m c]).run P w = .ok v' w' ∧ w'.ownsRow base e size v' (n + m) (xs ++ news) ∧ w.grownBy w' v.ownBlock ∧
      (v'.ownBlock = v.ownBlock ∨ v'.ownBlock = some w.heap.size) := by
  rcases A with _ | ad
  · have hm : m = 0 := by
      rcases Nat.eq_zero_or_pos m with h0 | h0
      · exact h0
      · obtain ⟨ad, h, _⟩ := hr (by rw [hl]; exact Nat.mul_pos h0 hsz)
        cases h
    subst hm
    have hn : news = [] := List.eq_nil_of_length_eq_zero (by simpa using hl)
    subst hn
    exact ⟨v, w, run_append_of_nil w base t ty e i size ht hi v n xs hown c, by simpa using hown, World.grownBy.refl w _, .inl rfl⟩
  · have hcells : ∀ j u, news[j]? = some u → w.cell? (ad.add j) = some u := by
      intro j u hu
      have h0 : 0 < news.length := by have := (List.getElem?_eq_some_iff.1 hu).1; omega
      obtain ⟨ad', h, _, _, hc⟩ := hr h0
      injection h with h
      subst h
      exact hc j u hu
    obtain ⟨v', w', hrun, h2, h3, _, h5⟩ := run_append_own_at (P := P) w base t ty e i z size bytes ht hi hz hsize hby hzs hsz v n xs hown ad m c news hl hcells h1 h63 hbytes hbase
    exact ⟨v', w', hrun, h2, h3, h5⟩
end

/-- What an element type's row in the program's table says. -/
structure Elem (e size bytes : Nat) : Prop where
  info : ∃ i z, Tryz.prog.info? e = some i ∧ i.zero = some z ∧ i.size = size ∧ i.bytes = bytes ∧ z.cells.size = size

/-- append onto a row of the call's own: what is behind it. -/
def Appended {α : Type} (d : Kind α) (e : Nat) (base : Nat) (F : Nat → Prop) (w : World) (v : Value) (xs : List α) (v' : Value) (w' : World) : Prop :=
  Own d e w' base F v' xs ∧ w.grownBy w' v.ownBlock ∧ (v'.ownBlock = v.ownBlock ∨ v'.ownBlock = some w.heap.size)

theorem run_append_own_sl {α : Type} (d : Kind α) {w : World} {base e bytes : Nat} (he : Elem e d.sz bytes) (t ty : TypeId) (ht : Tryz.prog.underlying t = some (.slice e))
    {F G : Nat → Prop} {v : Value} {xs ys : List α} (hown : Own d e w base F v xs) {A : Option Addr} {m c : Nat} (hsl : SL d w G (.slice A m c) ys)
    (hF : ∀ w', w.grownBy w' v.ownBlock → ∀ x cs, d.rel w F x cs → d.rel w' F x cs) (hG : ∀ w', w.grownBy w' v.ownBlock → ∀ x cs, d.rel w G x cs → d.rel w' F x cs)
    (h63 : xs.length + ys.length ≤ maxLen) (hbytes : (xs.length + ys.length) * bytes ≤ 140737488355328) (hbase : base ≤ w.heap.size) :
    ∃ v' w', (Builtin.append_ #[t, t] ty #[v, .slice A m c]).run Tryz.prog w = .ok v' w' ∧ Appended d e base F w v (xs ++ ys) v' w' := by
  obtain ⟨i, z, hi, hz, hs, hb, hzs⟩ := he.info
  obtain ⟨cs, ho, hr⟩ := hown
  obtain ⟨A', c', ds, heq, h1, h2, h3, h4⟩ := hsl
  injection heq with e1 e2 e3
  subst e1 e2 e3
  obtain ⟨v', w', hrun, ho', hg, hat⟩ := run_append_any (P := Tryz.prog) w base t ty e i z d.sz bytes ht hi hz hs hb hzs d.pos v xs.length cs ho G A ys.length c ds (h4.length fun _ _ => d.len) h3 (h4.all fun _ _ => d.one) h63 hbytes hbase
  refine ⟨v', w', hrun, ⟨cs ++ ds, by rw [List.length_append]; exact ho', (hr.mono (hF w' hg)).append (h4.mono (hG w' hg))⟩, hg, hat⟩

theorem wpList_append_sl {α : Type} (d : Kind α) {ops : Array Oper} {rest : List Oper} {o : Oper} {a : Act} {w : World} {Q : Exit → Act → World → Prop} {base e bytes : Nat} (he : Elem e d.sz bytes) (hgd : o.guard = none) (s x : Operand) (t : TypeId)
    (ho : o.op = .call { callee := .builtin .append, args := #[s, x], argTypes := #[t, t] }) (ht : Tryz.prog.underlying t = some (.slice e))
    {F G : Nat → Prop} {v : Value} {xs ys : List α} (hs : a.eval s = v) (hown : Own d e w base F v xs) {A : Option Addr} {m c : Nat} (hx : a.eval x = .slice A m c) (hsl : SL d w G (.slice A m c) ys)
    (hF : ∀ w', w.grownBy w' v.ownBlock → ∀ x cs, d.rel w F x cs → d.rel w' F x cs) (hG : ∀ w', w.grownBy w' v.ownBlock → ∀ x cs, d.rel w G x cs → d.rel w' F x cs)
    (h63 : xs.length + ys.length ≤ maxLen) (hbytes : (xs.length + ys.length) * bytes ≤ 140737488355328) (hbase : base ≤ w.heap.size)
    (h : ∀ v' w', Appended d e base F w v (xs ++ ys) v' w' → wpList Tryz.prog ops Q rest (a.put o.dst v') w') : wpList Tryz.prog ops Q (o :: rest) a w :=
  wpList_plain hgd fun _ hK => by
    obtain ⟨v', w', hrun, hA⟩ := run_append_own_sl d he t o.type ht hown hsl hF hG h63 hbytes hbase
    unfold Oper.wp execOp
    simp only [ho, resolve, invoke, builtin, Sem.run_bind, Sem.run_pure, Result.andThen_ok, List.map_toArray, List.map_cons, List.map_nil, hs, hx, hrun]
    exact hK _ _ (h v' w' hA)

theorem flatF {α : Type} {sz : Nat} {hp : 0 < sz} {enc : α → List Value} {ok : α → Prop} {hl : ∀ x, (enc x).length = sz} {h1 : ∀ x, ∀ u ∈ enc x, u.oneCell' = true} {w : World} {F G : Nat → Prop} {row : Option Nat} :
    ∀ w', w.grownBy w' row → ∀ x cs, (flat sz hp enc ok hl h1).rel w F x cs → (flat sz hp enc ok hl h1).rel w' G x cs := fun _ _ _ _ h => h
theorem deepF {α : Type} {d : Kind α} {w : World} {F G : Nat → Prop} {row : Option Nat} (hF : ∀ k, row = some k → ¬ F k) (hFG : ∀ k, F k → G k) :
    ∀ w', w.grownBy w' row → ∀ x cs, d.rel w F x cs → d.rel w' G x cs := fun w' hg x cs h => d.wid (d.keep h (Kept.of_grown hg hF) hg.size) fun k hk _ => hFG k hk

theorem elem_of {e size bytes : Nat} {z : Value} (h : (Tryz.prog.info? e).map (fun i => (i.zero, i.size, i.bytes)) = some (some z, size, bytes)) (hz : z.cells.size = size) : Elem e size bytes := by
  obtain ⟨i0, hi, h0, h1, h2⟩ := info_parts h
  exact ⟨i0, z, hi, h0, h1, h2, hz⟩
theorem infoByte : (Tryz.prog.info? 5).map (fun i => (i.zero, i.size, i.bytes)) = some (some (.int .u8 0), 1, 1) := by kernel_rfl
theorem infoInt : (Tryz.prog.info? 3).map (fun i => (i.zero, i.size, i.bytes)) = some (some (.int .i64 0), 1, 8) := by kernel_rfl
theorem infoStr : (Tryz.prog.info? 9).map (fun i => (i.zero, i.size, i.bytes)) = some (some (.string ⟨#[]⟩), 1, 16) := by kernel_rfl
theorem infoCell : (Tryz.prog.info? 90).map (fun i => (i.zero, i.size, i.bytes)) = some (some (.agg #[.int .u64 0, .string ⟨#[]⟩]), 2, 24) := by kernel_rfl
theorem infoCol : (Tryz.prog.info? 87).map (fun i => (i.zero, i.size, i.bytes)) = some (some (.agg #[.string ⟨#[]⟩, .int .i64 0]), 2, 24) := by kernel_rfl
theorem infoPair : (Tryz.prog.info? 94).map (fun i => (i.zero, i.size, i.bytes)) = some (some (.agg #[.slice none 0 0, .int .i64 0]), 2, 32) := by kernel_rfl
theorem infoEntry : (Tryz.prog.info? 58).map (fun i => (i.zero, i.size, i.bytes)) = some (some (.agg #[.int .i64 0, .int .i64 0, .slice none 0 0]), 3, 40) := by kernel_rfl
theorem infoCur : (Tryz.prog.info? 77).map (fun i => (i.zero, i.size, i.bytes)) = some (some (.agg #[.int .i64 0, .int .i64 0, .int .u32 0]), 3, 24) := by kernel_rfl
theorem elemByte : Elem 5 1 1 := elem_of infoByte rfl
theorem elemInt : Elem 3 1 8 := elem_of infoInt rfl
theorem elemStr : Elem 9 1 16 := elem_of infoStr rfl
theorem elemCell : Elem 90 2 24 := elem_of infoCell rfl
theorem elemCol : Elem 87 2 24 := elem_of infoCol rfl
theorem elemPair : Elem 94 2 32 := elem_of infoPair rfl
theorem elemEntry : Elem 58 3 40 := elem_of infoEntry rfl
theorem elemCur : Elem 77 3 24 := elem_of infoCur rfl

/-- One new element, in a block of its own: append's source. -/
theorem SL.single {α : Type} {d : Kind α} {w : World} {F : Nat → Prop} {x : α} {cs : List Value} (e : Nat) (h : d.rel w F x cs) : SL d (w.alloc (.cells cs.toArray e)) (fun k => F k ∨ k = w.heap.size) (.slice (some ⟨w.heap.size, 0, none⟩) 1 1) [x] := by
  refine ⟨_, 1, cs, rfl, by simp, by unfold maxLen; omega, fun _ => ⟨_, rfl, .inr rfl, by simp, fun j u hu => ?_⟩, Rel.single (d.wid (d.keep h (Kept.alloc _ _ _) (by simp)) fun k hk _ => .inl hk)⟩
  have hb : (w.alloc (.cells cs.toArray e)).heap[w.heap.size]? = some (.cells cs.toArray e (0, 0)) := heap_alloc_new w _
  rw [show ((⟨w.heap.size, 0, none⟩ : Addr).add j) = ⟨w.heap.size, j, none⟩ by unfold Addr.add; split <;> simp_all]
  rw [cell_of_row _ _ _ _ _ _ hb]
  simpa using hu
/-- What elements without inner rows lead to. -/
theorem own_flat {α : Type} {sz : Nat} {hp : 0 < sz} {enc : α → List Value} {ok : α → Prop} {hl : ∀ x, (enc x).length = sz} {h1 : ∀ x, ∀ u ∈ enc x, u.oneCell' = true} {e base : Nat} {w : World} {F G : Nat → Prop} {v : Value} {xs : List α}
    (h : Own (flat sz hp enc ok hl h1) e w base F v xs) : Own (flat sz hp enc ok hl h1) e w base G v xs := by
  obtain ⟨cs, ho, hr⟩ := h
  exact ⟨cs, ho, hr⟩
/-- An empty row that is there. -/
theorem Own.empty {α : Type} (d : Kind α) (e : Nat) (w : World) (base : Nat) (F : Nat → Prop) (hb : base ≤ w.heap.size) (hz : d.sz * 0 = 0) : Own d e (w.alloc (.cells #[] e)) base F (.slice (some ⟨w.heap.size, 0, none⟩) 0 0) [] :=
  ⟨[], ⟨by simp, .inr ⟨w.heap.size, 0, #[], rfl, hb, heap_alloc_new w _, Nat.le_refl _, by unfold maxLen; omega, by simp, by simp⟩⟩, .nil⟩

theorem cell_new_l (W : World) (v : Value) (t : TypeId) : (W.alloc (.cells #[v] t)).cell? ⟨W.heap.size, 0, none⟩ = some v ∧ (W.alloc (.cells #[v] t)).frozen? ⟨W.heap.size, 0, none⟩ = false := by
  constructor <;> simp
theorem flatten_le {α : Type} (xss : List (List α)) (k : Nat) : (xss.take k).flatten.length ≤ xss.flatten.length := by
  conv => rhs; rw [← List.take_append_drop k xss]
  rw [List.flatten_append, List.length_append]; omega
theorem wrapU (x : Int) : IntKind.u64.wrap x = x % 18446744073709551616 := by
  unfold IntKind.wrap
  simp [IntKind.bits, IntKind.signed]
end Go.Proofs.YtlhdndnohmikeaaGreatDoor
