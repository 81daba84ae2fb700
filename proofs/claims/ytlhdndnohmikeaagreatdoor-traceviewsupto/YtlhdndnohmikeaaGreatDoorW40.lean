/-
  Walks: all entries of a trace, one by one.
-/
import Derived.Test.YtlhdndnohmikeaaGreatDoorW33
import Derived.Test.YtlhdndnohmikeaaGreatDoorK
set_option linter.unusedVariables false
set_option linter.unusedSimpArgs false
namespace Go.Proofs.YtlhdndnohmikeaaGreatDoor
open Go.RowKit

/-- What taking entry k leaves. -/
def TakerPost (Inv : (Nat → Prop) → Nat → World → Prop) (Bad : Nat → Int → World → Prop) (Z : Nat → Prop) (k : Nat) (W : World) (x : Ending) (W' : World) : Prop :=
  ∃ ec, x = .returned (.int .i64 ec) ∧ (ec = 0 → Inv Z (k + 1) W') ∧ (ec ≠ 0 → Bad k ec W') ∧ Kept Z W W' ∧ W.heap.size ≤ W'.heap.size
/-- What is asked of the function that takes the entries: f is its number, args how it is called with an entry's value. -/
structure Taker (f : FuncId) (args : Value → Array Value) (es : List Entry) (Inv : (Nat → Prop) → Nat → World → Prop) (Bad : Nat → Int → World → Prop) : Prop where
  al : ∀ Z k W o, Inv Z k W → Inv (fun z => Z z ∨ z = W.heap.size) k (W.alloc o)
  step : ∀ Z k W vp (hk : k < es.length) (G : Nat → Prop), Inv Z k W → SL pairK W G vp es[k].pairs → (∀ k, G k → Z k) →
    Calls Tryz.prog f (args (.agg #[.int .i64 es[k].kind, .int .i64 es[k].seq, vp])) W (TakerPost Inv Bad Z k W)
/-- What all leaves. -/
def AllPost (es : List Entry) (Inv : (Nat → Prop) → Nat → World → Prop) (Bad : Nat → Int → World → Prop) (Z : Nat → Prop) (w : World) (x : Ending) (w' : World) : Prop :=
  (∃ (n : Nat) (ec : Int), x = .returned (.tuple #[.int .i64 (n : Int), .int .i64 ec]) ∧ (ec = 0 → n = es.length ∧ ∃ Z', (∀ z, Z z → Z' z) ∧ Inv Z' es.length w') ∧ (ec ≠ 0 → n < es.length ∧ Bad n ec w')) ∧ Kept Z w w' ∧ w.heap.size ≤ w'.heap.size
set_option maxRecDepth 100000 in
set_option maxHeartbeats 2000000 in
theorem all_calls (f : FuncId) (fi ca : Array Value) (es : List Entry) (Inv : (Nat → Prop) → Nat → World → Prop) (Bad : Nat → Int → World → Prop) (hf : ∀ args W, (callFunc f args).run Tryz.prog W = .ok (.enter f args) W)
    (hT : Taker f (fun x => fi ++ #[x] ++ ca) es Inv Bad) (As : Option Addr) (ns cs : Nat) (vt : Value) (Z : Nat → Prop) (w : World) (G : Nat → Prop) (ht : SL entryK w G vt es) (hGZ : ∀ k, G k → Z k) (hI : Inv Z 0 w) (hn : es.length ≤ 1099511627776) :
    Calls Tryz.prog 64 #[.agg #[.slice As ns cs, vt], .func (.func f) fi ca] w (AllPost es Inv Bad Z w) := by
  obtain ⟨A, c, rfl, _, _⟩ := ht.form
  obtain ⟨al, step⟩ := hT
  have AL := Lib.hid al
  have ST := Lib.hid step
  have hI1 := al Z 0 w (.cells #[.slice As ns cs, .slice A es.length c] 46) hI
  have q0 := (cell_new2 w (.slice As ns cs) (.slice A es.length c) 46).2
  have HH := Lib.hid (And.intro hI1 q0)
  clear al step q0 hI1
  go_enter Tryz.func64, Tryz.ntmps64
  go_wp2
  go_loopw [12] (fun vi wr => ∃ k : Nat, k ≤ es.length ∧ vi = .int .i64 k ∧ (∃ Z', (∀ z, Z z → Z' z) ∧ Z' w.heap.size ∧ Inv Z' k wr) ∧ Kept Z w wr ∧ wr.cell? ⟨w.heap.size, 1, none⟩ = some (.slice A es.length c) ∧ w.heap.size ≤ wr.heap.size) (fun vi _ => es.length - (intOf vi).toNat)
  case atStart => exact ⟨0, by omega, by simp, ⟨_, fun z h => .inl h, .inr rfl, HH.out.1⟩, Kept.alloc _ _ _, HH.out.2, by simp⟩
  case round =>
    obtain ⟨k, hk, rfl, ⟨Z', hZ, hZ0, hIk⟩, hK, hc, hsz⟩ := hrel
    by_cases hlt : k < es.length
    · have hte := ht.keep (hK.wid hGZ) hsz
      obtain ⟨ad, r, rfl, l1, x0, x1, x2, x3, x4, x5⟩ := entry_at hte hlt
      have k0 : (k : Int) < es.length := by omega
      obtain ⟨rA, rc, rfl, _, _⟩ := x3.form
      have SX := Lib.hid (ST.out _ k _ _ hlt _ (AL.out _ _ _ (.cells #[.int .i64 es[k].kind, .int .i64 es[k].seq, .slice rA es[k].pairs.length rc] 58) hIk) (x3.al _) (fun z hz => .inl (hZ z (hGZ z hz))))
      have HK := Lib.hid (And.intro hZ (And.intro hZ0 (And.intro hK hc)))
      clear hZ hK hc hIk hZ0
      generalize es[k] = e at *
      obtain ⟨kd, sq, ps⟩ := e
      simp only at *
      go_wp2_with fail
      refine SX.out.mono ?_
      rintro x w2 ⟨ec, rfl, hgo, hbad, hK2, hz2⟩
      have HG := Lib.hid (And.intro hgo (And.intro hbad hK2))
      clear hgo hbad hK2
      simp only [World.alloc] at hz2
      have hz3 : wr.heap.size ≤ w2.heap.size := by simp at hz2; omega
      by_cases hec : ec = 0
      · have HE := Lib.hid hec
        have e0 : (ec != 0) = false := bne_false hec
        clear hec
        go_wp2
        go_roundw
        case rel =>
          exact ⟨k + 1, by omega, by go_num, ⟨_, fun z h => .inl (HK.out.1 z h), .inl HK.out.2.1, HG.out.1 HE.out⟩, (HK.out.2.2.1).tr (((Kept.alloc _ _ _).tr (HG.out.2.2.wid fun z h => .inl h) (by simp)).wid HK.out.1) hsz, kept_cell ((Kept.alloc _ _ _).tr (HG.out.2.2.wid fun z h => .inl h) (by simp)) HK.out.2.1 HK.out.2.2.2, by omega⟩
        case measure => simp [intOf]; omega
      · have HE := Lib.hid hec
        have e0 : (ec != 0) = true := bne_true hec
        clear hec
        go_wp2
        refine bodyPost_ret (results_tmp2 rfl _ _ _) rfl ⟨⟨k, ec, rfl, fun h => absurd h HE.out, fun h => ⟨hlt, HG.out.2.1 h⟩⟩, ?_, by omega⟩
        exact (HK.out.2.2.1).tr (((Kept.alloc _ _ _).tr (HG.out.2.2.wid fun z h => .inl h) (by simp)).wid HK.out.1) hsz
    · have hk' : k = es.length := by omega
      have HK := Lib.hid (And.intro hk' (And.intro hZ (And.intro hIk hK)))
      clear hk' hZ hIk hK
      go_wp2
      refine bodyPost_ret (results_tmp2 rfl _ _ _) rfl ⟨⟨es.length, 0, rfl, fun _ => ⟨rfl, Z', HK.out.2.1, HK.out.1 ▸ HK.out.2.2.1⟩, fun h => absurd rfl h⟩, HK.out.2.2.2, hsz⟩
end Go.Proofs.YtlhdndnohmikeaaGreatDoor
