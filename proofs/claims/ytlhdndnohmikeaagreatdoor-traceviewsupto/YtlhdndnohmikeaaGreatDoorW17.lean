/-
  Walks: the stable sort of pairs (6): merges, the walk.
-/
import Derived.Test.YtlhdndnohmikeaaGreatDoorW16
set_option linter.unusedVariables false
set_option linter.unusedSimpArgs false
namespace Go.Proofs.YtlhdndnohmikeaaGreatDoor
open Go.RowKit

/-- What a merge does: its call, at any place of the array. -/
def SymOK (w0 : World) (B C N cap : Nat) (cf : Elt → Elt → Int) (S : Elt → Prop) (n : Nat) : Prop :=
  ∀ (a m b : Nat) (p u v q : List Elt) (w : World), u.length + v.length ≤ n → (p ++ u ++ v ++ q).length = N → p.length = a → a + u.length = m → m + v.length = b → 0 < u.length → 0 < v.length → Sorted cf u → Sorted cf v → (∀ x ∈ u ++ v, S x) →
    w0.grownBy w (some B) → Arr w B (p ++ u ++ v ++ q) →
    Calls Tryz.prog 158 #[.slice (some ⟨B, 0, none⟩) N cap, .int .i64 a, .int .i64 m, .int .i64 b, .func (.func 73) #[] #[.pointer (some ⟨C, 0, none⟩)]] w fun e w' => e = .returned (.tuple #[]) ∧ Merged B cf p (u ++ v) q w w'

/-- What the last three steps of a merge do, each if it is taken or not. -/
structure Steps (w0 : World) (B C N cap : Nat) (cf : Elt → Elt → Int) (a s m mi en b : Nat) (X Y Z V : Bool) (R : World → Prop) (wr : World) (P0 P1 P2 P3 : World → Prop) : Prop where
  c1 : (X && Y) = true → ∀ W, P0 W → Calls Tryz.prog 193 #[.slice (some ⟨B, 0, none⟩) N cap, .int .i64 s, .int .i64 m, .int .i64 en, .func (.func 73) #[] #[.pointer (some ⟨C, 0, none⟩)]] W fun e w' => e = .returned (.tuple #[]) ∧ P1 w'
  s1 : (X && Y) = false → ∀ W, P0 W → P1 W
  c2 : (Z && Y) = true → ∀ W, P1 W → Calls Tryz.prog 158 #[.slice (some ⟨B, 0, none⟩) N cap, .int .i64 a, .int .i64 s, .int .i64 mi, .func (.func 73) #[] #[.pointer (some ⟨C, 0, none⟩)]] W fun e w' => e = .returned (.tuple #[]) ∧ P2 w'
  s2 : (Z && Y) = false → ∀ W, P1 W → P2 W
  c3 : (X && V) = true → ∀ W, P2 W → Calls Tryz.prog 158 #[.slice (some ⟨B, 0, none⟩) N cap, .int .i64 mi, .int .i64 en, .int .i64 b, .func (.func 73) #[] #[.pointer (some ⟨C, 0, none⟩)]] W fun e w' => e = .returned (.tuple #[]) ∧ P3 w'
  s3 : (X && V) = false → ∀ W, P2 W → P3 W
  fin : ∀ W, P3 W → R W
theorem pos_of_decide {a b : Nat} {X : Bool} (h : decide (a < b) = X) (hx : X = true) : a < b := of_decide_eq_true (h.trans hx)
theorem Cmp.steps {w0 : World} {B C N cap : Nat} {cf : Elt → Elt → Int} {S : Elt → Prop} (hcmp : Cmp w0 B C cf S) {n : Nat} (ih : SymOK w0 B C N cap cf S n) (hc : N ≤ 4611686018427387903) {p u v q : List Elt} {a s m mi en b t e : Nat} {X Y Z V : Bool} {wr : World}
    (hn : u.length + v.length ≤ n + 1) (hN : (p ++ u ++ v ++ q).length = N) (ha : p.length = a) (hm : a + u.length = m) (hb : m + v.length = b) (hus : Sorted cf u) (hvs : Sorted cf v) (hSu : ∀ x ∈ u, S x) (hSv : ∀ x ∈ v, S x)
    (hP : Place cf u v t e) (hs : a + t = s) (hmi : s + e = mi) (hen : m + e = en) (hhalf : t + e < u.length + v.length) (hhalf0 : 0 < t + e) (hX : decide (s < m) = X) (hY : decide (s < mi) = Y) (hZ : decide (a < s) = Z) (hV : decide (en < b) = V) (hw : w0.grownBy wr (some B)) :
    Steps w0 B C N cap cf a s m mi en b X Y Z V (fun W => Merged B cf p (u ++ v) q wr W) wr
      (fun W => wr.grownBy W (some B) ∧ Arr W B (p ++ u ++ v ++ q))
      (fun W => wr.grownBy W (some B) ∧ Arr W B (p ++ (u.take t ++ v.take e) ++ (u.drop t ++ v.drop e) ++ q))
      (fun W => wr.grownBy W (some B) ∧ ∃ r, Arr W B (p ++ r ++ (u.drop t ++ v.drop e) ++ q) ∧ r.Perm (u.take t ++ v.take e) ∧ Sorted cf r)
      (fun W => wr.grownBy W (some B) ∧ ∃ r r', Arr W B (p ++ r ++ r' ++ q) ∧ r.Perm (u.take t ++ v.take e) ∧ Sorted cf r ∧ r'.Perm (u.drop t ++ v.drop e) ∧ Sorted cf r') := by
  have htu := hP.tu
  have hev := hP.ev
  have lt1 : (u.take t).length = t := by rw [List.length_take]; omega
  have lt2 : (u.drop t).length = u.length - t := List.length_drop ..
  have le1 : (v.take e).length = e := by rw [List.length_take]; omega
  have le2 : (v.drop e).length = v.length - e := List.length_drop ..
  have eu : u.take t ++ u.drop t = u := List.take_append_drop _ _
  have ev : v.take e ++ v.drop e = v := List.take_append_drop _ _
  have hn' : p.length + u.length + v.length + q.length = N := by simp at hN; omega
  have el : ∀ r : List Elt, p ++ u ++ v ++ r = (p ++ u.take t) ++ u.drop t ++ v.take e ++ (v.drop e ++ r) := fun r => by
    conv => lhs; rw [← eu, ← ev]
    simp only [List.append_assoc]
  refine ⟨fun h W hW => ?_, fun h W hW => ?_, fun h W hW => ?_, fun h W hW => ?_, fun h W hW => ?_, fun h W hW => ?_, fun W hW => ?_⟩
  · rw [Bool.and_eq_true] at h
    have h1 := pos_of_decide hX h.1
    have h2 := pos_of_decide hY h.2
    refine (rotate_calls B N cap s m en (p ++ u.take t) (u.drop t) (v.take e) (v.drop e ++ q) (by rw [← el]; exact hN) (by unfold maxLen; omega) (by rw [List.length_append, lt1, ha, hs]) (by rw [lt2]; omega) (by rw [le1]; exact hen) (by rw [lt2]; omega) (by rw [le1]; omega) W (by rw [← el]; exact hW.2) _).mono ?_
    rintro e1 w1 ⟨rfl, hA1, hg1⟩
    exact ⟨rfl, hW.1.trans hg1, by simpa using hA1⟩
  · refine ⟨hW.1, ?_⟩
    have hA := hW.2
    rw [el q] at hA
    rcases (Bool.and_eq_false_iff.1 h) with h | h
    · have h1 : ¬ s < m := of_decide_eq_false (hX.trans h)
      have : u.drop t = [] := List.drop_of_length_le (by omega)
      rw [this] at hA ⊢
      simp only [List.append_assoc, List.nil_append, List.append_nil] at hA ⊢
      exact hA
    · have h1 : ¬ s < mi := of_decide_eq_false (hY.trans h)
      have : v.take e = [] := by rw [show e = 0 by omega]; simp
      rw [this] at hA ⊢
      simp only [List.append_assoc, List.nil_append, List.append_nil] at hA ⊢
      exact hA
  · rw [Bool.and_eq_true] at h
    have h1 := pos_of_decide hZ h.1
    have h2 := pos_of_decide hY h.2
    refine (ih a s mi p (u.take t) (v.take e) ((u.drop t ++ v.drop e) ++ q) W (by omega) (by simp only [List.length_append, lt1, lt2, le1, le2]; omega) ha (by omega) (by omega) (by omega) (by omega) (hus.take t) (hvs.take e) ?_ (hw.trans hW.1) (by simpa using hW.2)).mono ?_
    · intro x hx
      rcases List.mem_append.1 hx with hx | hx
      · exact hSu x (List.mem_of_mem_take hx)
      · exact hSv x (List.mem_of_mem_take hx)
    · rintro e1 w1 ⟨rfl, ⟨r, hA1, hp1, hs1⟩, hg1⟩
      exact ⟨rfl, hW.1.trans hg1, r, by simpa using hA1, hp1, hs1⟩
  · refine ⟨hW.1, _, hW.2, List.Perm.refl _, ?_⟩
    rcases (Bool.and_eq_false_iff.1 h) with h | h
    · have h1 : ¬ a < s := of_decide_eq_false (hZ.trans h)
      rw [show t = 0 by omega]
      simpa using hvs.take e
    · have h1 : ¬ s < mi := of_decide_eq_false (hY.trans h)
      rw [show e = 0 by omega]
      simpa using hus.take t
  · rw [Bool.and_eq_true] at h
    have h1 := pos_of_decide hX h.1
    have h2 := pos_of_decide hV h.2
    obtain ⟨hg0, r, hA, hp, hr⟩ := hW
    have lr : r.length = t + e := by rw [hp.length_eq, List.length_append, lt1, le1]
    refine (ih mi en b (p ++ r) (u.drop t) (v.drop e) q W (by omega) (by simp only [List.length_append, lt2, le2]; omega) (by rw [List.length_append]; omega) (by omega) (by omega) (by omega) (by omega) (hus.drop t) (hvs.drop e) ?_ (hw.trans hg0) (by simpa using hA)).mono ?_
    · intro x hx
      rcases List.mem_append.1 hx with hx | hx
      · exact hSu x (List.mem_of_mem_drop hx)
      · exact hSv x (List.mem_of_mem_drop hx)
    · rintro e1 w1 ⟨rfl, ⟨r', hA1, hp1, hs1⟩, hg1⟩
      exact ⟨rfl, hg0.trans hg1, r, r', by simpa using hA1, hp, hr, hp1, hs1⟩
  · obtain ⟨hg0, r, hA, hp, hr⟩ := hW
    refine ⟨hg0, r, _, hA, hp, hr, List.Perm.refl _, ?_⟩
    rcases (Bool.and_eq_false_iff.1 h) with h | h
    · have h1 : ¬ s < m := of_decide_eq_false (hX.trans h)
      rw [show u.drop t = [] from List.drop_of_length_le (by omega)]
      simpa using hvs.drop e
    · have h1 : ¬ en < b := of_decide_eq_false (hV.trans h)
      rw [show v.drop e = [] from List.drop_of_length_le (by omega)]
      simpa using hus.drop t
  · obtain ⟨hg0, r, r', hA, hp, hr, hp', hr'⟩ := hW
    refine ⟨⟨r ++ r', by simpa using hA, ?_, ?_⟩, hg0⟩
    · refine (hp.append hp').trans ?_
      conv => rhs; rw [← eu, ← ev]
      simp only [List.append_assoc]
      refine List.Perm.append_left _ ?_
      rw [← List.append_assoc, ← List.append_assoc]
      exact List.Perm.append_right _ List.perm_append_comm
    · unfold Sorted
      rw [List.pairwise_append]
      exact ⟨hr, hr', fun x hx z hz => hP.cross hcmp hus hvs hSu hSv x (hp.mem_iff.1 hx) z (hp'.mem_iff.1 hz)⟩

set_option maxRecDepth 100000 in
set_option maxHeartbeats 4000000 in
theorem sym_step {w0 : World} {B C N cap : Nat} {cf : Elt → Elt → Int} {S : Elt → Prop} (hcmp : Cmp w0 B C cf S) {n : Nat} (ih : SymOK w0 B C N cap cf S n) (hc : N ≤ 4611686018427387903) (hB : B < w0.heap.size) (a m b : Nat) (p u v q : List Elt) (w : World)
    (hn : u.length + v.length ≤ n + 1) (hN : (p ++ u ++ v ++ q).length = N) (ha : p.length = a) (hm : a + u.length = m) (hb : m + v.length = b) (hu2 : 2 ≤ u.length) (hv2 : 2 ≤ v.length) (hus : Sorted cf u) (hvs : Sorted cf v) (hSu : ∀ x ∈ u, S x) (hSv : ∀ x ∈ v, S x) (hw : w0.grownBy w (some B)) (hA : Arr w B (p ++ u ++ v ++ q)) :
    Calls Tryz.prog 158 #[.slice (some ⟨B, 0, none⟩) N cap, .int .i64 a, .int .i64 m, .int .i64 b, .func (.func 73) #[] #[.pointer (some ⟨C, 0, none⟩)]] w fun e w' => e = .returned (.tuple #[]) ∧ Merged B cf p (u ++ v) q w w' := by
  have hlen : p.length + u.length + v.length + q.length = N := by simp at hN; omega
  have hbN : b ≤ N := by omega
  obtain ⟨mi, hmi⟩ : ∃ mi, (a + b) / 2 = mi := ⟨_, rfl⟩
  obtain ⟨nn, hnn⟩ : ∃ nn, mi + m = nn := ⟨_, rfl⟩
  obtain ⟨pp, hpp⟩ : ∃ pp, nn = pp + 1 := ⟨nn - 1, by omega⟩
  have f1 : ((a : Int) + b) / 2 = mi := by omega
  have f2 : (mi : Int) + m = nn := by omega
  have f3 : (nn : Int) - 1 = pp := by omega
  have e0 : ((m : Int) - a == 1) = false := beq_false_ (by omega)
  have e1 : ((b : Int) - m == 1) = false := beq_false_ (by omega)
  have am : a ≤ m := by omega
  have mb : m ≤ b := by omega
  have hmb : mi ≤ b := by omega
  have hnN : nn ≤ 2 * N := by omega
  have hBw : Hid (B < w.heap.size) := Nat.lt_of_lt_of_le hB hw.size
  have LEN := Lib.hid (show p.length = a ∧ a + u.length = m ∧ m + v.length = b ∧ mi + m = nn ∧ nn = pp + 1 ∧ (a + b) / 2 = mi ∧ 2 ≤ u.length ∧ 2 ≤ v.length from ⟨ha, hm, hb, hnn, hpp, hmi, hu2, hv2⟩)
  have HNN := Lib.hid hN
  have key : ∃ lo hi : Nat, (mi < m → (nn : Int) - b = lo ∧ hi = mi) ∧ (¬ mi < m → lo = a ∧ hi = m) ∧ a ≤ lo ∧ lo ≤ hi ∧ hi ≤ m ∧ hi ≤ mi ∧ nn ≤ lo + b ∧ Hid ((mi = lo + v.length ∨ lo = a) ∧ (hi = mi ∨ hi = m)) := by
    by_cases hA : mi < m
    · exact ⟨nn - b, mi, fun _ => ⟨by omega, rfl⟩, fun h => absurd hA h, by omega, by omega, by omega, by omega, by omega, by show _ ∧ _; omega⟩
    · exact ⟨a, m, fun h => absurd h hA, fun _ => ⟨rfl, rfl⟩, by omega, by omega, by omega, by omega, by omega, by show _ ∧ _; omega⟩
  obtain ⟨lo, hi, k1, k2, halo, hlohi, him, himi, hnlo, HK⟩ := key
  clear hN ha hm hb hu2 hv2 hlen hnn hpp hmi
  have STEPS := fun (t e s en : Nat) (X Y Z V : Bool) (wr : World) (hP : Place cf u v t e) (hs : a + t = s) (hmi : s + e = mi) (hen : m + e = en) (hX : decide (s < m) = X) (hY : decide (s < mi) = Y) (hZ : decide (a < s) = Z) (hV : decide (en < b) = V) (hw' : w0.grownBy wr (some B)) =>
    hcmp.steps (cap := cap) ih hc hn HNN.out LEN.out.1 LEN.out.2.1 LEN.out.2.2.1 hus hvs hSu hSv hP hs hmi hen (by have := LEN.out; omega) (by have := LEN.out; omega) hX hY hZ hV hw'
  have STP := Lib.hid STEPS
  clear STEPS
  rcases Nat.lt_or_ge mi m with hcase | hcase
  all_goals
    first
    | (have hq : mi < m := hcase
       obtain ⟨k3, k4⟩ := k1 hq
       have g1 : decide (mi < m) = true := decide_eq_true hq
       have LH := Lib.hid (show (lo : Int) = lo ∧ (mi : Int) = hi from ⟨rfl, by rw [k4]⟩)
       clear k1 k2 k4 hq hcase
       go_enter Tryz.func158, Tryz.ntmps158
       go_wp2)
    | (have hq : ¬ mi < m := Nat.not_lt.2 hcase
       obtain ⟨k3, k4⟩ := k2 hq
       have g1 : decide (mi < m) = false := decide_eq_false hq
       have LH := Lib.hid (show (a : Int) = lo ∧ (m : Int) = hi from ⟨by rw [k3], by rw [k4]⟩)
       clear k1 k2 k3 k4 hq hcase
       go_enter Tryz.func158, Tryz.ntmps158
       go_wp2)
  all_goals
    clear g1
    go_loopw [20, 21] (fun vi vj wr => ∃ i j : Nat, vi = .int .i64 i ∧ vj = .int .i64 j ∧ lo ≤ i ∧ i ≤ j ∧ j ≤ hi ∧ Hid ((i = lo ∨ ∀ x z, u[i - a - 1]? = some x → v[mi - i]? = some z → 0 ≤ cf z x) ∧ (j = hi ∨ ∀ x z, v[mi - j - 1]? = some x → u[j - a]? = some z → 0 ≤ cf z x)) ∧ Below w.heap.size w wr) (fun vi vj _ => (intOf vj).toNat - (intOf vi).toNat)
    case atStart => exact ⟨lo, hi, by first | rfl | rw [LH.out.1], by first | rfl | rw [LH.out.2], Nat.le_refl _, hlohi, Nat.le_refl _, ⟨.inl rfl, .inl rfl⟩, Below.refl _ _⟩
    case round =>
      obtain ⟨i, j, rfl, rfl, hli, hij, hjh, hIJ, hbw⟩ := hrel
      by_cases hlt : i < j
      · obtain ⟨h, hh⟩ : ∃ h, (i + j) / 2 = h := ⟨_, rfl⟩
        have hh1 : ((i : Int) + j) / 2 = h := by omega
        have hih : i ≤ h := by omega
        have hhj : h < j := by omega
        have hhN : h < N := by omega
        obtain ⟨pc, hpc⟩ : ∃ pc, pp = pc + h := ⟨pp - h, by have := LEN.out; omega⟩
        have hpc1 : (pp : Int) - h = pc := by omega
        have hpcN : pc < N := by have := LEN.out; omega
        have hku : h - a < u.length := by have := LEN.out; omega
        have hkv : pc - m < v.length := by have := LEN.out; omega
        have hkv' : pc - m = mi - h - 1 := by have := LEN.out; omega
        have hmpc : m ≤ pc := by have := LEN.out; omega
        have hAw := hA.below hbw hBw.out
        obtain ⟨x0, x1, _⟩ := hAw.at_ (i := h) (y := u[h - a]) (by rw [List.append_assoc]; exact get_ahead LEN.out.1 (by omega) hku)
        obtain ⟨y0, y1, _⟩ := hAw.at_ (i := pc) (y := v[pc - m]) (get_ahead (p := p ++ u) (by have := LEN.out; rw [List.length_append]; omega) hmpc hkv)
        have hCC : ∀ W : World, Below wr.heap.size wr W → Calls Tryz.prog 73 #[.agg #[v[pc - m].val, .int .i64 v[pc - m].weight], .agg #[u[h - a].val, .int .i64 u[h - a].weight], .pointer (some ⟨C, 0, none⟩)] W fun e w' => e = .returned (.int .i64 (cf v[pc - m] u[h - a])) ∧ Below W.heap.size W w' := fun W hW =>
          hcmp.call W _ _ ((hw.trans (grown_b hbw _)).trans (grown_b hW _)) (hSv _ (List.getElem_mem hkv)) (hSu _ (List.getElem_mem hku))
        have hup : Hid (¬ cf v[pc - m] u[h - a] < 0 → ∀ x z, u[h + 1 - a - 1]? = some x → v[mi - (h + 1)]? = some z → 0 ≤ cf z x) := fun hl x z hx hz => by
          rw [show h + 1 - a - 1 = h - a by omega, List.getElem?_eq_getElem hku] at hx
          rw [show mi - (h + 1) = pc - m by omega, List.getElem?_eq_getElem hkv] at hz
          injection hx with hx; injection hz with hz
          rw [← hx, ← hz]; omega
        have hdn : Hid (cf v[pc - m] u[h - a] < 0 → ∀ x z, v[mi - h - 1]? = some x → u[h - a]? = some z → 0 ≤ cf z x) := fun hl x z hx hz => by
          rw [List.getElem?_eq_getElem hku] at hz
          rw [← hkv', List.getElem?_eq_getElem hkv] at hx
          injection hx with hx; injection hz with hz
          rw [← hx, ← hz]; exact hcmp.asym _ _ (hSv _ (List.getElem_mem hkv)) (hSu _ (List.getElem_mem hku)) hl
        obtain ⟨vx, hvx⟩ : ∃ z, u[h - a].val = z := ⟨_, rfl⟩
        obtain ⟨wx, hwx⟩ : ∃ z, u[h - a].weight = z := ⟨_, rfl⟩
        obtain ⟨vy, hvy⟩ : ∃ z, v[pc - m].val = z := ⟨_, rfl⟩
        obtain ⟨wy, hwy⟩ : ∃ z, v[pc - m].weight = z := ⟨_, rfl⟩
        obtain ⟨cv, hcv⟩ : ∃ z, cf v[pc - m] u[h - a] = z := ⟨_, rfl⟩
        rw [hvx] at x0
        rw [hwx] at x1
        rw [hvy] at y0
        rw [hwy] at y1
        rw [hvx, hwx, hvy, hwy, hcv] at hCC
        rw [hcv] at hup hdn
        obtain ⟨lb, hlb⟩ : ∃ z, decide (cv < 0) = z := ⟨_, rfl⟩
        have CC := Lib.hid hCC
        clear hvy hwy hvx hwx hcv hCC hAw
        have z0 := fun p : Later wr => later_cell x0 p
        have z1 := fun p : Later wr => later_cell x1 p
        have z2 := fun p : Later wr => later_cell y0 p
        have z3 := fun p : Later wr => later_cell y1 p
        have HML := Lib.hid (show (intOf (.int .i64 h)).toNat - (intOf (.int .i64 i)).toNat < (intOf (.int .i64 j)).toNat - (intOf (.int .i64 i)).toNat by simp [intOf]; omega)
        have HMR := Lib.hid (show (intOf (.int .i64 j)).toNat - (intOf (.int .i64 ((h : Int) + 1))).toNat < (intOf (.int .i64 j)).toNat - (intOf (.int .i64 i)).toNat by simp [intOf]; omega)
        clear hpc hkv' hmpc hh
        go_wp2
        refine wp_region_later mixed (by kernel_rfl) ?_
        repeat (go_big_quiet_step ((go_at_call 73; exact later_of (CC.out _ (Later.below _)))))
        refine wpQuiet_nil ?_
        intro w2 hw2
        have hb2 := later_below hw2
        clear hw2 z0 z1 z2 z3 x0 x1 y0 y1
        have HLB : Hid (decide (cv < 0) = lb) := hlb
        clear hlb
        cases lb
        · have hs2 := Lib.hid (hup.out (by have := of_decide_eq_false HLB.out; omega))
          clear hh1 hup hdn
          go_wp2
          go_roundw
          case rel => exact ⟨h + 1, j, by go_num, rfl, by omega, by omega, hjh, ⟨.inr hs2.out, hIJ.out.2⟩, bel_trans hbw hb2⟩
          case measure => exact HMR.out
        · have hs2 := Lib.hid (hdn.out (of_decide_eq_true HLB.out))
          clear hh1 hup hdn
          go_wp2
          go_roundw
          case rel => exact ⟨i, h, rfl, rfl, hli, hih, by omega, ⟨hIJ.out.1, .inr hs2.out⟩, bel_trans hbw hb2⟩
          case measure => exact HML.out
      · have hij' : i = j := by omega
        subst hij'
        obtain ⟨t, ht⟩ : ∃ t, i = a + t := ⟨i - a, by omega⟩
        obtain ⟨e, he⟩ : ∃ e, mi = i + e := ⟨mi - i, by omega⟩
        obtain ⟨en, hen⟩ : ∃ en, m + e = en := ⟨_, rfl⟩
        have hPl : Place cf u v t e := by
          have hL := LEN.out
          refine ⟨?_, ?_, by omega, by omega⟩
          · rcases hIJ.out.1 with h1 | h1
            · rcases HK.out.1 with h2 | h2
              · exact .inr (.inl (by omega))
              · exact .inl (by omega)
            · rw [show i - a - 1 = t - 1 by omega, show mi - i = e by omega] at h1
              exact .inr (.inr h1)
          · rcases hIJ.out.2 with h1 | h1
            · rcases HK.out.2 with h2 | h2
              · exact .inl (by omega)
              · exact .inr (.inl (by omega))
            · rw [show i - a = t by omega, show mi - i - 1 = e - 1 by omega] at h1
              exact .inr (.inr h1)
        have f4 : (nn : Int) - i = en := by have := LEN.out; omega
        obtain ⟨X, hX⟩ : ∃ X, decide (i < m) = X := ⟨_, rfl⟩
        obtain ⟨Y, hY⟩ : ∃ Y, decide (i < mi) = Y := ⟨_, rfl⟩
        obtain ⟨Z, hZ⟩ : ∃ Z, decide (a < i) = Z := ⟨_, rfl⟩
        obtain ⟨V, hV⟩ : ∃ V, decide (en < b) = V := ⟨_, rfl⟩
        have hX2 : decide (mi < en) = X := by rw [← hX]; exact decide_eq_decide.2 (by omega)
        have hY2 : decide (m < en) = Y := by rw [← hY]; exact decide_eq_decide.2 (by omega)
        have hst := STP.out t e i en X Y Z V wr hPl ht.symm he.symm hen hX hY hZ hV (hw.trans (grown_b hbw _))
        have h0 : wr.grownBy wr (some B) ∧ Arr wr B (p ++ u ++ v ++ q) := ⟨grown_b (Below.refl _ _) _, hA.below hbw hBw.out⟩
        have HFIN := Lib.hid (show ∀ W, Merged B cf p (u ++ v) q wr W → Merged B cf p (u ++ v) q w W from fun W h => ⟨h.1, (grown_b hbw _).trans h.2⟩)
        have ST := Lib.hid hst
        have H0 := Lib.hid h0
        have henN : en ≤ N := by have := LEN.out; omega
        clear hst h0 hPl ht he hen hIJ
        cases X <;> cases Y <;> cases Z <;> cases V
        all_goals
          go_wp2_with (first
            | (go_at_call 193; refine (ST.out.c1 rfl _ H0.out).mono ?_; rintro e1 w1 ⟨rfl, h1⟩; have H1 := Lib.hid h1; clear h1)
            | (go_at_call_of 158 (Value.int .i64 (a : Int)); (first | refine (ST.out.c2 rfl _ H1.out).mono ?_ | refine (ST.out.c2 rfl _ (ST.out.s1 rfl _ H0.out)).mono ?_); rintro e2 w2 ⟨rfl, h2⟩; have H2 := Lib.hid h2; clear h2)
            | (go_at_call_of 158 (Value.int .i64 (b : Int)); (first | refine (ST.out.c3 rfl _ H2.out).mono ?_ | refine (ST.out.c3 rfl _ (ST.out.s2 rfl _ H1.out)).mono ?_ | refine (ST.out.c3 rfl _ (ST.out.s2 rfl _ (ST.out.s1 rfl _ H0.out))).mono ?_); rintro e3 w3 ⟨rfl, h3⟩; have H3 := Lib.hid h3; clear h3))
          go_end0
          refine ⟨rfl, HFIN.out _ (ST.out.fin _ ?_)⟩
          first
          | exact H3.out
          | exact ST.out.s3 rfl _ H2.out
          | exact ST.out.s3 rfl _ (ST.out.s2 rfl _ H1.out)
          | exact ST.out.s3 rfl _ (ST.out.s2 rfl _ (ST.out.s1 rfl _ H0.out))
end Go.Proofs.YtlhdndnohmikeaaGreatDoor
