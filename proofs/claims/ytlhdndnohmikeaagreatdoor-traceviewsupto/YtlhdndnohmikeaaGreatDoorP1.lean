/-
  Plain: what the set of any pairs is, as a function of the rows' totals.
-/
import Derived.Test.YtlhdndnohmikeaaGreatDoorMW24
set_option linter.unusedVariables false
set_option linter.unusedSimpArgs false
namespace Go.Proofs.YtlhdndnohmikeaaGreatDoor
open Go.RowKit

/-- How much of a row there is. -/
def wOf (l : List Pair) (r : List Cell) : Int := sumW (l.filter fun p => decide (p.row = r))
theorem wOf_nil (r : List Cell) : wOf [] r = 0 := rfl
theorem wOf_cons (p : Pair) (l : List Pair) (r : List Cell) : wOf (p :: l) r = (if p.row = r then p.weight else 0) + wOf l r := by
  unfold wOf
  by_cases h : p.row = r <;> simp [List.filter_cons, h, sumW]
theorem wOf_append (a b : List Pair) (r : List Cell) : wOf (a ++ b) r = wOf a r + wOf b r := by
  induction a with
  | nil => simp [wOf_nil]
  | cons p a ih => simp only [List.cons_append, wOf_cons, ih]; omega
theorem wOf_perm {a b : List Pair} (h : a.Perm b) (r : List Cell) : wOf a r = wOf b r := by
  induction h with
  | nil => rfl
  | cons x _ ih => simp only [wOf_cons, ih]
  | swap x y l => simp only [wOf_cons]; omega
  | trans _ _ i j => exact i.trans j
theorem wOf_none {l : List Pair} {r : List Cell} (h : ∀ p ∈ l, p.row ≠ r) : wOf l r = 0 := by
  induction l with
  | nil => rfl
  | cons p l ih => rw [wOf_cons, if_neg (h p (by simp)), ih fun q hq => h q (by simp [hq])]; rfl
theorem wOf_all {l : List Pair} {r : List Cell} (h : ∀ p ∈ l, p.row = r) : wOf l r = sumW l := by
  induction l with
  | nil => rfl
  | cons p l ih => rw [wOf_cons, if_pos (h p (by simp)), ih fun q hq => h q (by simp [hq])]; rfl

/-- A row that is in order. -/
def D (s : List Col) (r : List Cell) : Prop := rowCheck s r = 0 ∧ ∀ x ∈ r, U64 x.num
theorem D_ord (s : List Col) : Ord3 (D s) (rowCompare s) := (rowCompare_ord s).mono fun _ h => h.1
theorem D_zero {s : List Col} {a b : List Cell} (ha : D s a) (hb : D s b) (h : rowCompare s a b = 0) : a = b := rowCompare_zero ha.1 hb.1 ha.2 hb.2 h

/-- The groups of what follows each other with the same row. -/
def groups : List Pair → List Pair
  | [] => []
  | p :: ps => ⟨p.row, p.weight + sumW (ps.takeWhile fun q => decide (q.row = p.row))⟩ :: groups (ps.dropWhile fun q => decide (q.row = p.row))
termination_by l => l.length
decreasing_by
  have := (List.dropWhile_sublist (fun q : Pair => decide (q.row = p.row)) (l := ps)).length_le
  simp only [List.length_cons]; omega
/-- How the groups become a set. -/
def fin1 (o : List Pair) : List Pair × Int := if 1024 < o.length then ([], 13) else (o, 0)
theorem groupRes_groups (l : List Pair) : ∀ outs, groupRes outs l = if (groups l).all (fun p => fits p.weight) = true then fin1 (outs ++ (groups l).filter fun p => decide (p.weight ≠ 0)) else ([], 12) := by
  induction hn : l.length using Nat.strongRecOn generalizing l with
  | ind n ih =>
    intro outs
    subst hn
    cases l with
    | nil => simp [groupRes, groups, fin1]
    | cons p ps =>
      have hd : (ps.dropWhile fun q => decide (q.row = p.row)).length < (p :: ps).length := by
        have := (List.dropWhile_sublist (fun q : Pair => decide (q.row = p.row)) (l := ps)).length_le
        simp only [List.length_cons]; omega
      have IH := ih _ hd _ rfl
      rw [groupRes, groups]
      generalize p.weight + sumW (ps.takeWhile fun q => decide (q.row = p.row)) = T at *
      generalize (ps.dropWhile fun q => decide (q.row = p.row)) = d at *
      by_cases hf : fits T = false
      · simp [hf]
      · have hf' : fits T = true := by simpa using hf
        rw [if_neg hf]
        by_cases h0 : T = 0
        · subst h0
          rw [if_pos rfl, IH]
          simp [hf', List.filter_cons]
        · rw [if_neg h0, IH]
          simp [hf', List.filter_cons, h0]

/-- What follows is not smaller. -/
def Asc (s : List Col) (l : List Pair) : Prop := l.Pairwise fun x y => 0 ≤ rowCompare s y.row x.row
def Up (s : List Col) (l : List Pair) : Prop := l.Pairwise fun x y => rowCompare s x.row y.row < 0
theorem take_rows {r : List Cell} : ∀ (l : List Pair), ∀ q ∈ l.takeWhile (fun q => decide (q.row = r)), q.row = r
  | [], _, h => by cases h
  | p :: l, q, h => by
    rw [List.takeWhile_cons] at h
    split at h
    · rcases List.mem_cons.1 h with rfl | h
      · simpa using ‹decide _ = true›
      · exact take_rows l q h
    · cases h
/-- Behind the group everything is greater. -/
theorem drop_rows {s : List Col} {p : Pair} : ∀ (l : List Pair), Asc s (p :: l) → (∀ q ∈ p :: l, D s q.row) → ∀ q ∈ l.dropWhile (fun q => decide (q.row = p.row)), rowCompare s p.row q.row < 0
  | [], _, _, _, h => by cases h
  | x :: l, ha, hd, q, h => by
    have ha' := List.pairwise_cons.1 ha
    have hax := List.pairwise_cons.1 ha'.2
    have dp := hd p (by simp)
    have dx := hd x (by simp)
    rw [List.dropWhile_cons] at h
    split at h
    · refine drop_rows l (List.pairwise_cons.2 ⟨fun y hy => ha'.1 y (by simp [hy]), hax.2⟩) (fun y hy => hd y ?_) q h
      rcases List.mem_cons.1 hy with rfl | hy
      · simp
      · simp [hy]
    · rename_i hne
      have hne : x.row ≠ p.row := by simpa using hne
      have o := D_ord s
      have hpx : rowCompare s p.row x.row < 0 := by
        have h1 := ha'.1 x (by simp)
        have h2 := o.anti x.row p.row dx dp
        have h3 := o.anti p.row x.row dp dx
        refine Decidable.byContradiction fun hn => hne ?_
        exact D_zero dx dp (by omega)
      rcases List.mem_cons.1 h with rfl | hq
      · exact hpx
      · have dq := hd q (by simp [hq])
        have h1 := hax.1 q hq
        have h2 := o.anti q.row x.row dq dx
        have h3 := o.anti x.row q.row dx dq
        exact o.lt_le dp dx dq hpx (by omega)
theorem asc_drop {s : List Col} {p : Pair} {l : List Pair} (f : Pair → Bool) (h : Asc s (p :: l)) : Asc s (l.dropWhile f) := (List.pairwise_cons.1 h).2.sublist (List.dropWhile_sublist f)
theorem groups_facts {s : List Col} (l : List Pair) : Asc s l → (∀ q ∈ l, D s q.row) → (∀ q ∈ groups l, ∃ p ∈ l, p.row = q.row) ∧ Up s (groups l) ∧ (∀ r, wOf (groups l) r = wOf l r) ∧ (∀ q ∈ l, ∃ p ∈ groups l, p.row = q.row) := by
  induction hn : l.length using Nat.strongRecOn generalizing l with
  | ind n ih =>
    intro ha hd
    subst hn
    cases l with
    | nil => simp [groups, Up]
    | cons p ps =>
      have hlt : (ps.dropWhile fun q => decide (q.row = p.row)).length < (p :: ps).length := by
        have := (List.dropWhile_sublist (fun q : Pair => decide (q.row = p.row)) (l := ps)).length_le
        simp only [List.length_cons]; omega
      have hsub := (List.dropWhile_sublist (fun q : Pair => decide (q.row = p.row)) (l := ps)).subset
      obtain ⟨h1, h2, h3, h4⟩ := ih _ hlt _ rfl (asc_drop _ ha) (fun q hq => hd q (by simp [hsub hq]))
      have hgt := drop_rows ps ha hd
      have htk := take_rows (r := p.row) ps
      have hps : ps.takeWhile (fun q => decide (q.row = p.row)) ++ ps.dropWhile (fun q => decide (q.row = p.row)) = ps := List.takeWhile_append_dropWhile
      have dp := hd p (by simp)
      have o := D_ord s
      have hz := o.refl p.row dp
      rw [groups]
      generalize ht : ps.takeWhile (fun q => decide (q.row = p.row)) = t at *
      generalize hdd : ps.dropWhile (fun q => decide (q.row = p.row)) = d at *
      refine ⟨fun q hq => ?_, List.pairwise_cons.2 ⟨fun q hq => ?_, h2⟩, fun r => ?_, fun q hq => ?_⟩
      · rcases List.mem_cons.1 hq with rfl | hq
        · exact ⟨p, by simp, rfl⟩
        · obtain ⟨x, hx, e⟩ := h1 q hq
          exact ⟨x, by simp [hsub hx], e⟩
      · obtain ⟨x, hx, e⟩ := h1 q hq
        show rowCompare s p.row q.row < 0
        rw [← e]
        exact hgt x hx
      · rw [wOf_cons, wOf_cons, h3, ← hps, wOf_append]
        by_cases hr : p.row = r
        · subst hr
          rw [if_pos rfl, if_pos rfl, wOf_all htk]
          show p.weight + sumW t + _ = _
          omega
        · rw [if_neg hr, if_neg hr, wOf_none fun q hq e => hr ((htk q hq).symm.trans e)]
          omega
      · rcases List.mem_cons.1 hq with rfl | hq
        · exact ⟨_, List.mem_cons_self, rfl⟩
        · rw [← hps] at hq
          rcases List.mem_append.1 hq with hq | hq
          · exact ⟨_, List.mem_cons_self, (htk q hq).symm⟩
          · obtain ⟨x, hx, e⟩ := h4 q hq
            exact ⟨x, by simp [hx], e⟩

/-- A set in order, without zeros. -/
structure Canon (s : List Col) (l : List Pair) : Prop where
  up : Up s l
  ok : ∀ p ∈ l, D s p.row
  nz : ∀ p ∈ l, p.weight ≠ 0
theorem Canon.nil (s : List Col) : Canon s [] := ⟨List.Pairwise.nil, by simp, by simp⟩
theorem Canon.tail {s : List Col} {p : Pair} {l : List Pair} (h : Canon s (p :: l)) : Canon s l := ⟨(List.pairwise_cons.1 h.up).2, fun q hq => h.ok q (by simp [hq]), fun q hq => h.nz q (by simp [hq])⟩
theorem up_ne {s : List Col} {p q : Pair} (hp : D s p.row) (h : rowCompare s p.row q.row < 0) : q.row ≠ p.row := fun e => by
  rw [e, (D_ord s).refl _ hp] at h
  omega
theorem Canon.wOf_head {s : List Col} {p : Pair} {l : List Pair} (h : Canon s (p :: l)) : wOf (p :: l) p.row = p.weight := by
  rw [wOf_cons, if_pos rfl, wOf_none fun q hq => up_ne (h.ok p (by simp)) ((List.pairwise_cons.1 h.up).1 q hq)]
  omega
theorem Canon.wOf_mem {s : List Col} : ∀ {l : List Pair}, Canon s l → ∀ p ∈ l, wOf l p.row = p.weight
  | [], _, _, h => by cases h
  | q :: l, h, p, hp => by
    rcases List.mem_cons.1 hp with rfl | hp
    · exact h.wOf_head
    · rw [wOf_cons, if_neg (fun e => up_ne (h.ok q (by simp)) ((List.pairwise_cons.1 h.up).1 p hp) e.symm), h.tail.wOf_mem p hp]
      omega
theorem wOf_has {l : List Pair} {r : List Cell} (h : wOf l r ≠ 0) : ∃ p ∈ l, p.row = r := by
  refine Decidable.byContradiction fun hn => h (wOf_none fun p hp e => hn ⟨p, hp, e⟩)
theorem Canon.le_all {s : List Col} {p : Pair} {l : List Pair} (h : Canon s (p :: l)) {q : Pair} (hq : q ∈ p :: l) : rowCompare s p.row q.row ≤ 0 := by
  rcases List.mem_cons.1 hq with rfl | hq
  · rw [(D_ord s).refl _ (h.ok _ (by simp))]; omega
  · have := (List.pairwise_cons.1 h.up).1 q hq; omega
theorem canon_ext {s : List Col} : ∀ {a b : List Pair}, Canon s a → Canon s b → (∀ r, wOf a r = wOf b r) → a = b
  | [], [], _, _, _ => rfl
  | [], q :: b, _, hb, h => by
    have := h q.row
    rw [hb.wOf_head, wOf_nil] at this
    exact absurd this.symm (hb.nz q (by simp))
  | p :: a, [], ha, _, h => by
    have := h p.row
    rw [ha.wOf_head, wOf_nil] at this
    exact absurd this (ha.nz p (by simp))
  | p :: a, q :: b, ha, hb, h => by
    have dp := ha.ok p (by simp)
    have dq := hb.ok q (by simp)
    have hr : p.row = q.row := by
      obtain ⟨x, hx, ex⟩ := wOf_has (l := q :: b) (r := p.row) (by rw [← h, ha.wOf_head]; exact ha.nz p (by simp))
      obtain ⟨y, hy, ey⟩ := wOf_has (l := p :: a) (r := q.row) (by rw [h, hb.wOf_head]; exact hb.nz q (by simp))
      have h1 := hb.le_all hx
      have h2 := ha.le_all hy
      rw [ex] at h1
      rw [ey] at h2
      have h3 := (D_ord s).anti p.row q.row dp dq
      have h4 := (D_ord s).anti q.row p.row dq dp
      exact D_zero dp dq (by omega)
    have hw : p.weight = q.weight := by
      have := h p.row
      rw [ha.wOf_head, hr, hb.wOf_head] at this
      exact this
    have ht : a = b := canon_ext ha.tail hb.tail fun r => by
      have := h r
      rw [wOf_cons, wOf_cons, hr, hw] at this
      omega
    obtain ⟨pr, pw⟩ := p
    obtain ⟨qr, qw⟩ := q
    simp only at hr hw
    rw [hr, hw, ht]

theorem wOf_filter (l : List Pair) (hl : ∀ p ∈ l, wOf l p.row = p.weight) (r : List Cell) : wOf (l.filter fun p => decide (p.weight ≠ 0)) r = wOf l r := by
  clear hl
  induction l with
  | nil => rfl
  | cons p l ih =>
    rw [List.filter_cons, wOf_cons]
    split
    · rw [wOf_cons, ih]
    · rename_i h
      have h0 : p.weight = 0 := by simpa using h
      rw [ih, h0]
      split <;> omega
theorem Up.groups_w {s : List Col} : ∀ {l : List Pair}, Up s l → (∀ p ∈ l, D s p.row) → ∀ p ∈ l, wOf l p.row = p.weight
  | [], _, _, _, h => by cases h
  | q :: l, h, hd, p, hp => by
    have h' := List.pairwise_cons.1 h
    rcases List.mem_cons.1 hp with rfl | hp
    · rw [wOf_cons, if_pos rfl, wOf_none fun x hx => up_ne (hd p (by simp)) (h'.1 x hx)]
      omega
    · rw [wOf_cons, if_neg (fun e => up_ne (hd q (by simp)) (h'.1 p hp) e.symm), Up.groups_w h'.2 (fun x hx => hd x (by simp [hx])) p hp]
      omega
/-- What rows that are in order come to. -/
theorem collect_facts {s : List Col} {l ys out : List Pair} {ec : Int} (hd : ∀ p ∈ l, D s p.row) (hp : ys.Perm l) (ha : Asc s ys) (hg : groupRes [] ys = (out, ec)) :
    ((∃ r, fits (wOf l r) = false) ∧ out = [] ∧ ec = 12) ∨ ((∀ r, fits (wOf l r) = true) ∧ ∃ c, Canon s c ∧ (∀ r, wOf c r = wOf l r) ∧ (out, ec) = fin1 c) := by
  have hd' : ∀ p ∈ ys, D s p.row := fun p h => hd p (hp.mem_iff.1 h)
  obtain ⟨h1, h2, h3, h4⟩ := groups_facts ys ha hd'
  have hgd : ∀ q ∈ groups ys, D s q.row := fun q hq => by obtain ⟨p, h, e⟩ := h1 q hq; rw [← e]; exact hd' p h
  have hw := Up.groups_w h2 hgd
  rw [groupRes_groups] at hg
  by_cases hall : (groups ys).all (fun p => fits p.weight) = true
  · rw [if_pos hall, List.nil_append] at hg
    refine .inr ⟨fun r => ?_, _, ⟨h2.sublist List.filter_sublist, fun p h => hgd p (List.mem_filter.1 h).1, fun p h => by simpa using (List.mem_filter.1 h).2⟩, fun r => ?_, hg.symm⟩
    · by_cases h0 : wOf l r = 0
      · rw [h0]; rfl
      · rw [← wOf_perm hp, ← h3] at h0
        obtain ⟨p, hp', rfl⟩ := wOf_has h0
        rw [← wOf_perm hp, ← h3, hw p hp']
        exact List.all_eq_true.1 hall p hp'
    · rw [wOf_filter _ hw, h3, wOf_perm hp]
  · rw [if_neg hall] at hg
    injection hg with e1 e2
    refine .inl ⟨?_, e1.symm, e2.symm⟩
    have : ∃ p ∈ groups ys, fits p.weight = false := by
      refine Decidable.byContradiction fun hn => hall (List.all_eq_true.2 fun p h => ?_)
      by_cases hf : fits p.weight = false
      · exact absurd ⟨p, h, hf⟩ hn
      · simpa using hf
    obtain ⟨p, hp', hf⟩ := this
    exact ⟨p.row, by rw [← wOf_perm hp, ← h3, hw p hp']; exact hf⟩

/-- Numbers that fit their kinds. -/
def Good (l : List Pair) : Prop := ∀ p ∈ l, (∀ x ∈ p.row, U64 x.num) ∧ I64 p.weight
theorem Good.append {a b : List Pair} (ha : Good a) (hb : Good b) : Good (a ++ b) := fun p hp => (List.mem_append.1 hp).elim (ha p) (hb p)
theorem rows_D {s : List Col} {l : List Pair} (hg : Good l) (h : rowsLoop s l = 0) : ∀ p ∈ l, D s p.row := fun p hp => ⟨rowsLoop_all h p hp, (hg p hp).1⟩
theorem collected_ok {s : List Col} {l out : List Pair} {ec : Int} (hg : Good l) (h0 : schemaCheck s = 0) (h1 : rowsLoop s l = 0) (h : Collected s l out ec) :
    ((∃ r, fits (wOf l r) = false) ∧ out = [] ∧ ec = 12) ∨ ((∀ r, fits (wOf l r) = true) ∧ ∃ c, Canon s c ∧ (∀ r, wOf c r = wOf l r) ∧ (out, ec) = fin1 c) := by
  rcases h with ⟨h, _⟩ | ⟨_, h, _⟩ | ⟨_, _, ys, hp, ha, hgr⟩
  · exact absurd h0 h
  · exact absurd h1 h
  · exact collect_facts (rows_D hg h1) hp ha hgr
/-- The set hangs on the totals alone. -/
theorem collected_det {s : List Col} {l l' x y : List Pair} {e f : Int} (hg : Good l) (hg' : Good l') (h0 : schemaCheck s = 0) (h1 : rowsLoop s l = 0) (h1' : rowsLoop s l' = 0) (hw : ∀ r, wOf l r = wOf l' r)
    (h : Collected s l x e) (h' : Collected s l' y f) : x = y ∧ e = f := by
  rcases collected_ok hg h0 h1 h with ⟨⟨r, a⟩, b, c⟩ | ⟨a, c, b1, b2, b3⟩ <;> rcases collected_ok hg' h0 h1' h' with ⟨⟨r', a'⟩, b', c'⟩ | ⟨a', c', b1', b2', b3'⟩
  · exact ⟨b.trans b'.symm, c.trans c'.symm⟩
  · rw [hw] at a; rw [a'] at a; cases a
  · rw [← hw] at a'; rw [a] at a'; cases a'
  · obtain rfl := canon_ext b1 b1' fun r => by rw [b2, b2', hw]
    have := b3.trans b3'.symm
    injection this with e1 e2
    exact ⟨e1, e2⟩
theorem collected_same {s : List Col} {l x y : List Pair} {e f : Int} (hg : Good l) (h : Collected s l x e) (h' : Collected s l y f) : x = y ∧ e = f := by
  by_cases h0 : schemaCheck s = 0
  · by_cases h1 : rowsLoop s l = 0
    · exact collected_det hg hg h0 h1 h1 (fun _ => rfl) h h'
    · rcases h with ⟨h, _⟩ | ⟨_, _, a, b⟩ | ⟨_, h, _⟩
      · exact absurd h0 h
      · rcases h' with ⟨h, _⟩ | ⟨_, _, a', b'⟩ | ⟨_, h, _⟩
        · exact absurd h0 h
        · exact ⟨a.trans a'.symm, b.trans b'.symm⟩
        · exact absurd h h1
      · exact absurd h h1
  · rcases h with ⟨_, a, b⟩ | ⟨h, _⟩ | ⟨h, _⟩
    · rcases h' with ⟨_, a', b'⟩ | ⟨h, _⟩ | ⟨h, _⟩
      · exact ⟨a.trans a'.symm, b.trans b'.symm⟩
      · exact absurd h h0
      · exact absurd h h0
    · exact absurd h h0
    · exact absurd h h0
theorem summed_same {s : List Col} {a b x y : List Pair} {e f : Int} (ha : Good a) (hb : Good b) (h : Summed s a b x e) (h' : Summed s a b y f) : x = y ∧ e = f := by
  rcases h with ⟨h0, a1, a2⟩ | ⟨h0, hc⟩ <;> rcases h' with ⟨h0', b1, b2⟩ | ⟨h0', hc'⟩
  · exact ⟨a1.trans b1.symm, a2.trans b2.symm⟩
  · exact absurd h0' h0
  · exact absurd h0 h0'
  · exact collected_same (ha.append hb) hc hc'

/-- Sets that are in order are those that the check lets by. -/
theorem loop_canon {s : List Col} : ∀ {l : List Pair} {q : Option (List Cell)}, zsetLoop s q l = 0 → (∀ r, q = some r → D s r) → Good l → Canon s l ∧ (∀ r, q = some r → ∀ p ∈ l, rowCompare s r p.row < 0)
  | [], _, _, _, _ => ⟨Canon.nil s, fun _ _ _ h => by cases h⟩
  | p :: l, q, h, hq, hg => by
    simp only [zsetLoop] at h
    have h0 : rowCheck s p.row = 0 := by
      refine Decidable.byContradiction fun hn => ?_
      rw [if_pos hn] at h; exact hn h
    rw [if_neg (by simp [h0])] at h
    by_cases h1 : p.weight = 0
    · simp [h1] at h
    · rw [if_neg h1] at h
      by_cases h2 : late s q p.row = true
      · simp [h2] at h
      · rw [if_neg h2] at h
        have dp : D s p.row := ⟨h0, (hg p (by simp)).1⟩
        obtain ⟨hc, hlt⟩ := loop_canon (q := some p.row) h (fun r e => by injection e with e; subst e; exact dp) fun x hx => hg x (by simp [hx])
        have hup := hlt p.row rfl
        refine ⟨⟨List.pairwise_cons.2 ⟨hup, hc.up⟩, fun x hx => ?_, fun x hx => ?_⟩, fun r e x hx => ?_⟩
        · rcases List.mem_cons.1 hx with rfl | hx
          · exact dp
          · exact hc.ok x hx
        · rcases List.mem_cons.1 hx with rfl | hx
          · exact h1
          · exact hc.nz x hx
        · subst e
          have hr : rowCompare s r p.row < 0 := by simpa [late] using h2
          rcases List.mem_cons.1 hx with rfl | hx
          · exact hr
          · exact (D_ord s).lt_le (hq r rfl) dp (hc.ok x hx) hr (by have := hup x hx; omega)
theorem check_canon {s : List Col} {l : List Pair} (h : zsetCheck s l = 0) (hg : Good l) : Canon s l ∧ schemaCheck s = 0 ∧ l.length ≤ 1024 := by
  have hl := zsetCheck_len h
  unfold zsetCheck at h
  by_cases h0 : schemaCheck s = 0
  · rw [if_neg (by simp [h0]), if_neg (by omega)] at h
    exact ⟨(loop_canon h (fun _ e => by cases e) hg).1, h0, hl⟩
  · rw [if_pos h0] at h; exact absurd h h0
theorem canon_loop {s : List Col} : ∀ {l : List Pair} {q : Option (List Cell)}, Canon s l → (∀ r, q = some r → ∀ p ∈ l, rowCompare s r p.row < 0) → zsetLoop s q l = 0
  | [], _, _, _ => rfl
  | p :: l, q, h, hq => by
    simp only [zsetLoop]
    rw [if_neg (by simp [(h.ok p (by simp)).1]), if_neg (h.nz p (by simp)), if_neg ?_]
    · exact canon_loop h.tail fun r e x hx => by injection e with e; subst e; exact (List.pairwise_cons.1 h.up).1 x hx
    · cases q with
      | none => simp [late]
      | some r =>
        have := hq r rfl p (by simp)
        simp only [late, decide_eq_true_eq]
        omega
theorem canon_check {s : List Col} {l : List Pair} (h : Canon s l) (h0 : schemaCheck s = 0) (hl : l.length ≤ 1024) : zsetCheck s l = 0 := by
  unfold zsetCheck
  rw [if_neg (by simp [h0]), if_neg (by omega)]
  exact canon_loop h fun _ e => by cases e
theorem canon_rows {s : List Col} : ∀ {l : List Pair}, (∀ p ∈ l, D s p.row) → rowsLoop s l = 0
  | [], _ => rfl
  | p :: l, h => by
    simp only [rowsLoop]
    rw [if_neg (by simp [(h p (by simp)).1])]
    exact canon_rows fun q hq => h q (by simp [hq])
end Go.Proofs.YtlhdndnohmikeaaGreatDoor
