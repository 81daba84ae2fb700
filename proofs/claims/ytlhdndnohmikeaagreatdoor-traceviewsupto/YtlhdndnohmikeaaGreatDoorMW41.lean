/-
  Walks: a trace's bytes.
  Walks: Encode.
  Walks: View.
-/
import Derived.Test.YtlhdndnohmikeaaGreatDoorW40
import Derived.Test.YtlhdndnohmikeaaGreatDoorMW37
import Derived.Test.YtlhdndnohmikeaaGreatDoorW34
set_option linter.unusedVariables false
set_option linter.unusedSimpArgs false
namespace Go.Proofs.YtlhdndnohmikeaaGreatDoor
open Go.RowKit

/-- Entries that follow each other, and what is behind them. -/
inductive Chain (s : List Col) : List Entry → Int → List Pair → Prop
  | nil : Chain s [] 0 []
  | snoc {es : List Entry} {seq : Int} {view : List Pair} {e : Entry} {n : Int} {out : List Pair} : Chain s es seq view → es.length < 4096 → Applied s seq view e n out 0 → Chain s (es ++ [e]) n out
/-- Why an entry can't follow. -/
def Fails (s : List Col) (k : Nat) (seq : Int) (view : List Pair) (e : Entry) (ec : Int) : Prop :=
  (4096 ≤ k ∧ ec = 13) ∨ (k < 4096 ∧ ec ≠ 0 ∧ ∃ n out, Applied s seq view e n out ec) ∨ (k < 4096 ∧ (∃ n out, Applied s seq view e n out 0) ∧ ec = entryErr s e ∧ ec ≠ 0)
def bodyBytes (s : List Col) (es : List Entry) : List UInt8 := es.flatMap (entryBytes s)
theorem bodyBytes_snoc (s : List Col) (es : List Entry) (e : Entry) : bodyBytes s (es ++ [e]) = bodyBytes s es ++ entryBytes s e := by simp [bodyBytes]
/-- Where things lie while a trace is written. -/
structure Where (T P S B : Nat) (w0 : World) : Prop where
  g0 : Glob w0
  s0 : w0.heap.size ≤ S
  ts : T ≠ S
  tb : T ≠ B
  ps : P ≠ S
  pb : P ≠ B
  sb : S ≠ B
structure EncI (s : List Col) (es : List Entry) (As : Option Addr) (cs T P S B : Nat) (w0 : World) (Z : Nat → Prop) (k : Nat) (W : World) (seq : Int) (view : List Pair) (FV : Nat → Prop) : Prop where
  low : Below w0.heap.size w0 W
  t : W.cell? ⟨T, 0, none⟩ = some (.slice As s.length cs)
  ts : SL colK W FV (.slice As s.length cs) s
  p : W.cell? ⟨P, 0, none⟩ = some (.pointer (some ⟨S, 0, none⟩))
  st : St W S FV s seq view k
  bx : Bx W B w0.heap.size (headBytes s ++ bodyBytes s (es.take k))
  rb : ∀ v, W.cell? ⟨B, 0, none⟩ = some v → ∀ g, v.ownBlock = some g → ¬ Z g ∧ ¬ FV g ∧ g ≠ S ∧ g ≠ T ∧ g ≠ P
  fb : ¬ FV B
  zs : ¬ Z S
  zb : ¬ Z B
  zl : ∀ z, Z z → z < W.heap.size
  fl : ∀ z, FV z → z < W.heap.size
  run : Chain s (es.take k) seq view
  ok : ∀ e ∈ es.take k, entryErr s e = 0
def EncInv (s : List Col) (es : List Entry) (As : Option Addr) (cs T P S B : Nat) (w0 : World) (Z : Nat → Prop) (k : Nat) (W : World) : Prop := ∃ seq view FV, EncI s es As cs T P S B w0 Z k W seq view FV
def EncBad (s : List Col) (es : List Entry) (w0 : World) (k : Nat) (ec : Int) (W : World) : Prop := Below w0.heap.size w0 W ∧ ∃ seq view, Chain s (es.take k) seq view ∧ (∀ e ∈ es.take k, entryErr s e = 0) ∧ ∃ h : k < es.length, Fails s k seq view es[k] ec
theorem St.below {w w' : World} {b : Nat} {F : Nat → Prop} {s : List Col} {seq : Int} {view : List Pair} {many : Nat} (h : St w b F s seq view many) (hb : Below w.heap.size w w') : St w' b F s seq view many := by
  obtain ⟨⟨vs, a0, hs⟩, ⟨a1, hsq⟩, ⟨vv, a2, hv⟩, ⟨a3, hm⟩, hfr, hout⟩ := h
  exact ⟨⟨vs, cell_by hb a0, hs.below hb⟩, ⟨cell_by hb a1, hsq⟩, ⟨vv, cell_by hb a2, hv.below hb⟩, ⟨cell_by hb a3, hm⟩, fun o => froz_by hb (World.block_lt_of_cell? w _ a0) (hfr o), hout⟩
theorem own_len (A : Option Addr) (n m c : Nat) : (Value.slice A n c).ownBlock = (Value.slice A m c).ownBlock := by cases A <;> rfl
theorem St.keep {w w' : World} {b : Nat} {F : Nat → Prop} {s : List Col} {seq : Int} {view : List Pair} {many : Nat} (h : St w b F s seq view many) (hk : Kept (fun j => F j ∨ j = b) w w') (hs : w.heap.size ≤ w'.heap.size) : St w' b F s seq view many := by
  obtain ⟨⟨vs, a0, hs0⟩, ⟨a1, hsq⟩, ⟨vv, a2, hv⟩, ⟨a3, hm⟩, hfr, hout⟩ := h
  have hb : ∀ {o v}, w.cell? ⟨b, o, none⟩ = some v → w'.cell? ⟨b, o, none⟩ = some v := fun h => kept_cell hk (.inr rfl) h
  have hF : Kept F w w' := hk.wid fun _ h => .inl h
  exact ⟨⟨vs, hb a0, hs0.keep hF hs⟩, ⟨hb a1, hsq⟩, ⟨vv, hb a2, hv.keep hF hs⟩, ⟨hb a3, hm⟩, fun o => (World.frozen?_of_block (w := w) (a := ⟨b, o, none⟩) (hk b (.inr rfl) (World.block_lt_of_cell? w _ a0))).trans (hfr o), hout⟩
theorem St.bound {w : World} {b : Nat} {F : Nat → Prop} {s : List Col} {seq : Int} {view : List Pair} {many : Nat} (h : St w b F s seq view many) : St w b (fun k => F k ∧ k < w.heap.size) s seq view many := by
  obtain ⟨⟨vs, a0, hs0⟩, h1, ⟨vv, a2, hv⟩, h3, hfr, hout⟩ := h
  exact ⟨⟨vs, a0, hs0.bound⟩, h1, ⟨vv, a2, hv.bound⟩, h3, hfr, fun h => hout h.1⟩
theorem encI_al {s : List Col} {es : List Entry} {As : Option Addr} {cs T P S B : Nat} {w0 : World} {Z FV : Nat → Prop} {k : Nat} {W : World} {seq : Int} {view : List Pair} (h : EncI s es As cs T P S B w0 Z k W seq view FV) (o : Obj) :
    EncI s es As cs T P S B w0 (fun z => Z z ∨ z = W.heap.size) k (W.alloc o) seq view FV := by
  have hb : Below W.heap.size W (W.alloc o) := bel_alloc (Below.refl _ _) o
  have hS := World.block_lt_of_cell? W _ h.st.c1.1
  have hB := h.bx.lt
  obtain ⟨v, hv1, hv2, hv3⟩ := h.bx.ex
  refine ⟨bel_alloc h.low o, cell_by hb h.t, h.ts.below hb, cell_by hb h.p, h.st.below hb, h.bx.by hb, fun u hu g hg => ?_, h.fb, fun hz => hz.elim h.zs fun e => by simp at hS; omega, fun hz => hz.elim h.zb fun e => by omega, fun z hz => ?_, fun z hz => ?_, h.run, h.ok⟩
  · have e : u = v := by
      have := cell_by hb hv1
      rw [hu] at this
      injection this
    subst e
    obtain ⟨n1, n2, n3⟩ := h.rb u hv1 g hg
    have := (hv2.lt g hg).2
    exact ⟨fun hz => hz.elim n1 fun e => by omega, n2, n3⟩
  · rcases hz with hz | hz
    · have := h.zl z hz; simp; omega
    · simp; omega
  · have := h.fl z hz; simp; omega
theorem Bx.grown {w w' : World} {B S base : Nat} {acc : List UInt8} (h : Bx w B base acc) (hg : w.grownBy w' (some S)) (hSB : S ≠ B) (hr : ∀ v, w.cell? ⟨B, 0, none⟩ = some v → v.ownBlock ≠ some S) : Bx w' B base acc := by
  have hl := h.lt
  obtain ⟨⟨v, h1, h2, h3⟩, h4, h5⟩ := h
  have hne : some S ≠ some B := fun e => by injection e with e; exact hSB e
  exact ⟨⟨v, cell_grown hg hne h1, h2.keep hg fun k hk => by injection hk with hk; subst hk; exact ⟨hr v h1, fun h => h⟩, h3⟩, (World.frozen?_of_block (hg.block B hl (fun e => hne e.symm))).trans h4, h5⟩
theorem entryBytes_len {s : List Col} {e : Entry} (h : entryErr s e = 0) : (entryBytes s e).length ≤ 1048591 := by
  have h1 := frameBytes_len (frameKind e.kind) (entryPayload s e)
  unfold entryErr at h
  split at h
  · rename_i h0; exact absurd h h0
  · split at h
    · omega
    · unfold entryBytes; omega
theorem bodyBytes_len {s : List Col} : ∀ {es : List Entry}, (∀ e ∈ es, entryErr s e = 0) → (bodyBytes s es).length ≤ 1048591 * es.length
  | [], _ => by simp [bodyBytes]
  | e :: es, h => by
    have h1 := bodyBytes_len (es := es) fun x hx => h x (by simp [hx])
    have h2 := entryBytes_len (h e (by simp))
    simp only [bodyBytes, List.flatMap_cons, List.length_append, List.length_cons] at *
    omega
theorem schemaBytes_len0 (s : List Col) (h : schemaCheck s = 0) : (headBytes s).length ≤ 400 := by
  have h1 := frameBytes_len 0 (schemaBytes s)
  have h2 := schemaBytes_len h
  unfold headBytes
  rw [List.length_append]
  simp only [magicL, List.length_cons, List.length_nil]
  omega
theorem grown_alloc_kept {Z : Nat → Prop} {w w2 : World} {S : Nat} {o : Obj} (hg : (w.alloc o).grownBy w2 (some S)) (hS : ¬ Z S) : Kept Z w w2 :=
  (Kept.alloc _ _ _).tr (Kept.of_grown hg fun k hk => by injection hk with hk; subst hk; exact hS) (by simp)
theorem takePost_full {b : Nat} {F : Nat → Prop} {s : List Col} {seq : Int} {view : List Pair} {many : Nat} {e : Entry} {w w' : World} {x : Ending} (h : TakePost b F s seq view many e w x w') (h4 : 4096 ≤ many) : x = .returned (.int .i64 13) ∧ Below w.heap.size w w' := by
  unfold TakePost at h; rwa [if_pos h4] at h
theorem takePost_free {b : Nat} {F : Nat → Prop} {s : List Col} {seq : Int} {view : List Pair} {many : Nat} {e : Entry} {w w' : World} {x : Ending} (h : TakePost b F s seq view many e w x w') (h4 : ¬ 4096 ≤ many) :
    ∃ n out ec, x = .returned (.int .i64 ec) ∧ Applied s seq view e n out ec ∧ (ec = 0 → St w' b (fun k => F k ∨ w.heap.size ≤ k) s n out (many + 1) ∧ w.grownBy w' (some b)) ∧ (ec ≠ 0 → Below w.heap.size w w') := by
  unfold TakePost at h
  rw [if_neg h4] at h
  obtain ⟨n, out, ec, h1, h2, h3⟩ := h
  refine ⟨n, out, ec, h1, h2, fun he => ?_, fun he => ?_⟩
  · rwa [if_pos he] at h3
  · rwa [if_neg he] at h3
set_option maxRecDepth 100000 in
set_option maxHeartbeats 2000000 in
theorem enc_take {s : List Col} {es : List Entry} {As : Option Addr} {cs T P S B : Nat} {w0 : World} {Z FV : Nat → Prop} {k : Nat} {w : World} {seq : Int} {view : List Pair} (hI : EncI s es As cs T P S B w0 Z k w seq view FV) (hW : Where T P S B w0) (hsc : schemaCheck s = 0)
    (e : Entry) (hk : k < es.length) (he : es[k] = e) (vp : Value) (G : Nat → Prop) (hp : SL pairK w G vp e.pairs) (hGZ : ∀ z, G z → Z z) :
    Calls Tryz.prog 65 (#[] ++ #[.agg #[.int .i64 e.kind, .int .i64 e.seq, vp]] ++ #[.pointer (some ⟨P, 0, none⟩), .pointer (some ⟨T, 0, none⟩), .pointer (some ⟨B, 0, none⟩)]) w (TakerPost (EncInv s es As cs T P S B w0) (EncBad s es w0) Z k w) := by
  obtain ⟨Bp, cp, rfl, _, _⟩ := hp.form
  obtain ⟨kd, hkd⟩ : ∃ x, e.kind = x := ⟨_, rfl⟩
  obtain ⟨sq, hsq⟩ : ∃ x, e.seq = x := ⟨_, rfl⟩
  have hba : Below w.heap.size w (w.alloc (.cells #[.int .i64 e.kind, .int .i64 e.seq, .slice Bp e.pairs.length cp] 58)) := bel_alloc (Below.refl _ _) _
  have TK := Lib.hid (take_calls S FV G s seq view k e (.slice Bp e.pairs.length cp) _ ((hW.g0.below hI.low).below hba) (hI.st.below hba) (hp.below hba))
  have q0 : (w.alloc (.cells #[.int .i64 e.kind, .int .i64 e.seq, .slice Bp e.pairs.length cp] 58)).cell? ⟨w.heap.size, 0, none⟩ = some (.int .i64 e.kind) := by simp
  have q1 : (w.alloc (.cells #[.int .i64 e.kind, .int .i64 e.seq, .slice Bp e.pairs.length cp] 58)).cell? ⟨w.heap.size, 1, none⟩ = some (.int .i64 e.seq) := by simp
  have q2 : (w.alloc (.cells #[.int .i64 e.kind, .int .i64 e.seq, .slice Bp e.pairs.length cp] 58)).cell? ⟨w.heap.size, 2, none⟩ = some (.slice Bp e.pairs.length cp) := by simp
  have hp0 := cell_by hba hI.p
  have hts := hW.ts
  have hSl : S < w.heap.size := World.block_lt_of_cell? w _ hI.st.c1.1
  have hTl : T < w.heap.size := World.block_lt_of_cell? w _ hI.t
  have hBl := hI.bx.lt
  have h4096 := hI.st.c3.2
  have HI := Lib.hid hI
  have HE := Lib.hid he
  by_cases h4 : 4096 ≤ k
  · have H4 := Lib.hid h4
    clear h4 he hI hts
    rw [hkd, hsq] at *
    clear hkd hsq
    go_enter Tryz.func65, Tryz.ntmps65
    go_wp2_with (go_at_call 66; refine TK.out.mono ?_; rintro x w2 htp; obtain ⟨rfl, hb2⟩ := takePost_full htp H4.out)
    go_ret
    exact ⟨13, rfl, fun h => by omega, fun _ => ⟨bel_trans (bel_alloc HI.out.low _) hb2, seq, view, HI.out.run, HI.out.ok, hk, .inl ⟨H4.out, rfl⟩⟩, Kept.of_below (bel_trans hba hb2), (bel_trans hba hb2).size⟩
  · have H4 := Lib.hid h4
    clear h4 he hI hts
    rw [hkd, hsq] at hba TK q0 q1 q2 hp0 ⊢
    have HKS := Lib.hid (And.intro hkd hsq)
    clear hkd hsq
    go_enter Tryz.func65, Tryz.ntmps65
    go_wp2_with fail
    refine TK.out.mono ?_
    rintro x w2 htp
    obtain ⟨n, out, ec, rfl, hap, hst, hbl⟩ := takePost_free htp H4.out
    by_cases hec : ec = 0
    · subst hec
      obtain ⟨hst, hg⟩ := hst rfl
      clear hbl htp
      have hSg : w.heap.size ≠ S := by omega
      have hTg : some S ≠ some T := fun e => by injection e with e; exact hW.ts e.symm
      have r0 := cell_grown hg (fun e => by injection e with e; exact hSg e.symm) q0
      have r1 := cell_grown hg (fun e => by injection e with e; exact hSg e.symm) q1
      have r2 := cell_grown hg (fun e => by injection e with e; exact hSg e.symm) q2
      have t2 := cell_grown hg hTg (cell_by hba HI.out.t)
      have p2 := cell_grown hg (fun e => by injection e with e; exact hW.ps e.symm) hp0
      have bx2 := (HI.out.bx.by hba).grown hg hW.sb (fun v hv => by
        obtain ⟨u, hu, _⟩ := HI.out.bx.ex
        have e1 := cell_by hba hu
        rw [hv] at e1
        injection e1 with e1
        subst e1
        exact fun e => (HI.out.rb v hu S e).2.2.1 rfl)
      have low2 : Below w0.heap.size w0 w2 := bel_grow1 (bel_alloc HI.out.low _) hg hW.s0
      have hkS : Kept FV (w.alloc (.cells #[.int .i64 kd, .int .i64 sq, .slice Bp e.pairs.length cp] 58)) w2 := Kept.of_grown hg fun k' hk' => by injection hk' with hk'; subst hk'; exact HI.out.st.out
      have ts2 := (HI.out.ts.below hba).keep hkS hg.size
      have hkG : Kept G (w.alloc (.cells #[.int .i64 kd, .int .i64 sq, .slice Bp e.pairs.length cp] 58)) w2 := Kept.of_grown hg fun k' hk' => by injection hk' with hk'; subst hk'; exact fun h => HI.out.zs (hGZ _ h)
      have hp2 := (hp.below hba).keep hkG hg.size
      have EW := Lib.hid (entryWrite_calls s e _ _ w2 _ _ (hW.g0.below low2) ts2 hp2)
      rw [HKS.out.1, HKS.out.2] at EW
      obtain ⟨ee, hee⟩ : ∃ x, entryErr s e = x := ⟨_, rfl⟩
      obtain ⟨eb, heb⟩ : ∃ x, (if ee = 0 then entryBytes s e else []) = x := ⟨_, rfl⟩
      rw [hee, heb] at EW
      have hebl : eb.length ≤ 1048591 := by
        rw [← heb]
        split
        · rename_i h; exact entryBytes_len (hee.trans h)
        · simp
      have hbbl := bodyBytes_len HI.out.ok
      have hhl := schemaBytes_len0 s hsc
      rw [List.length_take] at hbbl
      obtain ⟨acc, hacc⟩ : ∃ x, headBytes s ++ bodyBytes s (es.take k) = x := ⟨_, rfl⟩
      have hal : acc.length ≤ 8589934592 := by rw [← hacc, List.length_append]; omega
      rw [hacc] at bx2
      have HACC := Lib.hid hacc
      clear hacc hbbl
      have HEE := Lib.hid (And.intro hee heb)
      have HR := Lib.hid (And.intro hap (And.intro hst hg))
      clear hee heb hap hst hkS hkG q0 q1 q2 hp0
      go_wp2_with (first
        | (go_at_call 52; refine EW.out.mono ?_; rintro x w3 ⟨⟨v3, rfl, ho3⟩, hb3⟩; obtain ⟨A3, c3, rfl, _, _⟩ := ho3.sl.form; have bx3 := bx2.by hb3; obtain ⟨⟨vo, y1, y2, y3⟩, y4, y5⟩ := bx3; have hs3 := ho3.sl; have hlt3 := World.block_lt_of_cell? w3 _ y1; have low3 := bel_trans low2 hb3)
        | (at_builtin; refine wpList_append_sl byteK elemByte rfl _ _ 36 rfl Tryz.underlying36 rfl y2 rfl hs3 flatF flatF ?_ ?_ ?_ ?_; (unfold maxLen; omega); omega; exact low3.size; rintro v5 w5 hA5; obtain ⟨A5, c5, rfl, _, _⟩ := hA5.1.sl.form; obtain ⟨hp1, hp2, u, hp3⟩ := Bx.put hlt3 y4 y1 y5 y3 (fun k hk => (y2.lt k hk).1) hA5; rw [List.length_append] at hp1))
      go_ret
      obtain ⟨hap, hst, hg⟩ := HR.out
      have hI := HI.out
      obtain ⟨v, hv1, hv2, hv3⟩ := hI.bx.ex
      have hSB : some S ≠ some B := fun e => by injection e with e; exact hW.sb e
      have e1 := cell_by hb3 (cell_grown hg hSB (cell_by hba hv1))
      rw [y1] at e1
      injection e1 with e1
      subst e1
      have rbv := hI.rb _ hv1
      have rlt : ∀ g, vo.ownBlock = some g → g < w.heap.size := fun g hg => (hv2.lt g hg).2
      have hz2 := hg.size
      simp only [show (w.alloc (.cells #[.int .i64 kd, .int .i64 sq, .slice Bp e.pairs.length cp] 58)).heap.size = w.heap.size + 1 by simp] at hz2 hst
      have hz3 := hb3.size
      have hz5 := hA5.2.1.size
      have hst2 := hst.bound
      -- what stays, from w2 on
      have K25 : Kept (fun j => ((FV j ∨ w.heap.size + 1 ≤ j) ∧ j < w2.heap.size) ∨ j = S ∨ j = T ∨ j = P ∨ Z j) w2 (w5.setCell ⟨B, 0, none⟩ (.slice A5 (acc.length + eb.length) c5)) := by
        refine ((Kept.of_below hb3).tr (Kept.of_grown hA5.2.1 fun g hgg hj => ?_) hz3).tr (Kept.set _ ?_) (by omega)
        · have n := rbv g hgg
          have := rlt g hgg
          rcases hj with hj | hj | hj | hj | hj
          · rcases hj.1 with h | h
            · exact n.2.1 h
            · omega
          · exact n.2.2.1 hj
          · exact n.2.2.2.1 hj
          · exact n.2.2.2.2 hj
          · exact n.1 hj
        · rintro (hj | hj | hj | hj | hj)
          · rcases hj.1 with h | h
            · exact hI.fb h
            · simp only at h; omega
          · exact hW.sb hj.symm
          · exact hW.tb hj.symm
          · exact hW.pb hj.symm
          · exact hI.zb hj
      have hzf : w2.heap.size ≤ (w5.setCell ⟨B, 0, none⟩ (.slice A5 (acc.length + eb.length) c5)).heap.size := by simp; omega
      have hKZ : Kept Z w (w5.setCell ⟨B, 0, none⟩ (.slice A5 (acc.length + eb.length) c5)) := (grown_alloc_kept hg hI.zs).tr (K25.wid fun j h => .inr (.inr (.inr (.inr h)))) (by omega)
      refine ⟨ee, rfl, fun h0 => ?_, fun h0 => ?_, hKZ, by omega⟩
      · have htk : es.take (k + 1) = es.take k ++ [e] := by rw [List.take_succ_eq_append_getElem hk, HE.out]
        refine ⟨n, out, _, ?_, kept_cell K25 (.inr (.inr (.inl rfl))) t2, ((ts2.bound).wid fun j hj _ => ⟨.inl hj.1, hj.2⟩).keep (K25.wid fun j h => .inl h) hzf, kept_cell K25 (.inr (.inr (.inr (.inl rfl)))) p2, hst2.keep (K25.wid fun j h => h.elim .inl fun h => .inr (.inl h)) hzf, ?_, ?_, ?_, hI.zs, hI.zb, ?_, ?_, ?_, ?_⟩
        · exact bel_set (bel_grown low3 hA5.2.1 (fun k hk => (y2.lt k hk).1)) y5 _
        · rw [htk, bodyBytes_snoc, ← List.append_assoc, HACC.out]
          have := HEE.out.2
          rw [if_pos h0] at this
          rw [this]
          exact hp1
        · intro u hu g hgg
          rw [cell_set_on hp3] at hu
          injection hu with hu
          subst hu
          rcases hA5.2.2 with h | h
          · have h' : vo.ownBlock = some g := (show (Value.slice A5 (acc ++ eb).length c5).ownBlock = vo.ownBlock from h).symm.trans ((own_len _ _ _ _).trans hgg)
            have n := rbv g h'
            have := rlt g h'
            exact ⟨n.1, fun hj => hj.1.elim n.2.1 fun h => by omega, n.2.2⟩
          · have h' : some w3.heap.size = some g := h.symm.trans ((own_len _ _ _ _).trans hgg)
            injection h' with h'
            subst h'
            exact ⟨fun hz => by have := hI.zl _ hz; omega, fun hj => by have := hj.2; omega, by omega, by omega, by have := World.block_lt_of_cell? w _ hI.p; simp only at this; omega⟩
        · exact fun hj => hj.1.elim hI.fb fun h => by omega
        · exact fun z hz => by have := hI.zl z hz; omega
        · exact fun z hz => by have := hz.2; omega
        · rw [htk]; exact .snoc hI.run (by rw [List.length_take]; have := H4.out; omega) hap
        · rw [htk]
          intro x hx
          rcases List.mem_append.1 hx with hx | hx
          · exact hI.ok x hx
          · rw [List.mem_singleton.1 hx]; exact HEE.out.1.trans h0
      · exact ⟨bel_set (bel_grown low3 hA5.2.1 (fun k hk => (y2.lt k hk).1)) y5 _, seq, view, hI.run, hI.ok, hk, .inr (.inr ⟨by have := H4.out; omega, ⟨n, out, HE.out ▸ hap⟩, by rw [HE.out]; exact HEE.out.1.symm, h0⟩)⟩
    · have e0 := bne_true hec
      have hb2 := hbl hec
      have HEC := Lib.hid (And.intro hec hap)
      clear hec hst hbl hap htp
      go_wp2
      go_ret
      exact ⟨ec, rfl, fun h => absurd h HEC.out.1, fun _ => ⟨bel_trans (bel_alloc HI.out.low _) hb2, seq, view, HI.out.run, HI.out.ok, hk, .inr (.inl ⟨by have := H4.out; omega, HEC.out.1, n, out, HE.out ▸ HEC.out.2⟩)⟩, Kept.of_below (bel_trans hba hb2), (bel_trans hba hb2).size⟩
end Go.Proofs.YtlhdndnohmikeaaGreatDoor

set_option linter.unusedVariables false
set_option linter.unusedSimpArgs false
namespace Go.Proofs.YtlhdndnohmikeaaGreatDoor
open Go.RowKit

/-- A trace that can be written. -/
def Good1 (s : List Col) (es : List Entry) : Prop := schemaCheck s = 0 ∧ (∃ seq view, Chain s es seq view) ∧ ∀ e ∈ es, entryErr s e = 0
/-- A trace's bytes. -/
def traceBytes (s : List Col) (es : List Entry) : List UInt8 := headBytes s ++ bodyBytes s es
/-- What a trace comes to, written. -/
def Encoded (s : List Col) (es : List Entry) (out : List UInt8) (n ec : Int) : Prop :=
  (schemaCheck s ≠ 0 ∧ out = [] ∧ n = 0 ∧ ec = schemaCheck s) ∨
  (Good1 s es ∧ ec = 0 ∧ n = es.length ∧ out = traceBytes s es) ∨
  (schemaCheck s = 0 ∧ ec ≠ 0 ∧ out = [] ∧ ∃ k, n = (k : Nat) ∧ ∃ seq view, Chain s (es.take k) seq view ∧ (∀ e ∈ es.take k, entryErr s e = 0) ∧ ∃ h : k < es.length, Fails s k seq view es[k] ec)
def EncodePost (s : List Col) (es : List Entry) (w : World) (x : Ending) (w' : World) : Prop :=
  (∃ vo n ec out, x = .returned (.tuple #[vo, .int .i64 n, .int .i64 ec]) ∧ Own byteK 5 w' w.heap.size (fun _ => False) vo out ∧ Encoded s es out n ec) ∧ Below w.heap.size w w'
theorem enc_enter (args : Array Value) (W : World) : (callFunc 65 args).run Tryz.prog W = .ok (.enter 65 args) W := by kernel_rfl
/-- The beginning. -/
theorem encI_start {s : List Col} {es : List Entry} {As A1 : Option Addr} {cs c1 : Nat} {w w1 : World} {ob : Obj} {F : Nat → Prop} (hs : SL colK w F (.slice As s.length cs) s) (hb1 : Below (w.alloc ob).heap.size (w.alloc ob) w1)
    (q0 : w1.cell? ⟨w.heap.size, 0, none⟩ = some (.slice As s.length cs)) (ho1 : Own byteK 5 w1 (w.alloc ob).heap.size (fun _ => False) (.slice A1 (headBytes s).length c1) (headBytes s)) :
    EncInv s es As cs w.heap.size (w1.heap.size + 1 + 1) (w1.heap.size + 1) w1.heap.size w (fun z => z < w.heap.size) 0 (((w1.alloc (.cells #[.slice A1 (headBytes s).length c1] 36)).alloc (.cells #[.slice As s.length cs, .int .i64 0, .slice none 0 0, .int .i64 0] 125)).alloc (.cells #[.pointer (some ⟨w1.heap.size + 1, 0, none⟩)] 123)) := by
  have hz := hb1.size
  simp only [show (w.alloc ob).heap.size = w.heap.size + 1 by simp] at hz
  have hbw : Below w.heap.size w w1 := bel_trans (bel_alloc (Below.refl _ _) ob) hb1
  have low : Below w.heap.size w (((w1.alloc (.cells #[.slice A1 (headBytes s).length c1] 36)).alloc (.cells #[.slice As s.length cs, .int .i64 0, .slice none 0 0, .int .i64 0] 125)).alloc (.cells #[.pointer (some ⟨w1.heap.size + 1, 0, none⟩)] 123)) := bel_alloc (bel_alloc (bel_alloc hbw _) _) _
  have ts := hs.since low
  have hbx := ((Bx.new ho1 (show w.heap.size ≤ _ by simp) (by omega)).by (bel_alloc (Below.refl _ _) (.cells #[.slice As s.length cs, .int .i64 0, .slice none 0 0, .int .i64 0] 125))).by (bel_alloc (Below.refl _ _) (.cells #[.pointer (some ⟨w1.heap.size + 1, 0, none⟩)] 123))
  have hcB : (((w1.alloc (.cells #[.slice A1 (headBytes s).length c1] 36)).alloc (.cells #[.slice As s.length cs, .int .i64 0, .slice none 0 0, .int .i64 0] 125)).alloc (.cells #[.pointer (some ⟨w1.heap.size + 1, 0, none⟩)] 123)).cell? ⟨w1.heap.size, 0, none⟩ = some (.slice A1 (headBytes s).length c1) := cell_al (cell_al (cell_new_l _ _ _).1 _) _
  have hS : ∀ o u, (#[Value.slice As s.length cs, .int .i64 0, .slice none 0 0, .int .i64 0] : Array Value)[o]? = some u → (((w1.alloc (.cells #[.slice A1 (headBytes s).length c1] 36)).alloc (.cells #[.slice As s.length cs, .int .i64 0, .slice none 0 0, .int .i64 0] 125)).alloc (.cells #[.pointer (some ⟨w1.heap.size + 1, 0, none⟩)] 123)).cell? ⟨w1.heap.size + 1, o, none⟩ = some u := fun o u h => by
    refine cell_al ?_ _
    have hh : ((w1.alloc (.cells #[.slice A1 (headBytes s).length c1] 36)).alloc (.cells #[.slice As s.length cs, .int .i64 0, .slice none 0 0, .int .i64 0] 125)).heap[w1.heap.size + 1]? = some (.cells #[.slice As s.length cs, .int .i64 0, .slice none 0 0, .int .i64 0] 125) := by
      have := heap_alloc_new (w1.alloc (.cells #[.slice A1 (headBytes s).length c1] 36)) (.cells #[.slice As s.length cs, .int .i64 0, .slice none 0 0, .int .i64 0] 125)
      simpa using this
    rw [cell_of_row _ _ _ _ _ _ hh]
    exact h
  have hfS : ∀ o, (((w1.alloc (.cells #[.slice A1 (headBytes s).length c1] 36)).alloc (.cells #[.slice As s.length cs, .int .i64 0, .slice none 0 0, .int .i64 0] 125)).alloc (.cells #[.pointer (some ⟨w1.heap.size + 1, 0, none⟩)] 123)).frozen? ⟨w1.heap.size + 1, o, none⟩ = false := fun o => by
    have hh : ((w1.alloc (.cells #[.slice A1 (headBytes s).length c1] 36)).alloc (.cells #[.slice As s.length cs, .int .i64 0, .slice none 0 0, .int .i64 0] 125)).heap[w1.heap.size + 1]? = some (.cells #[.slice As s.length cs, .int .i64 0, .slice none 0 0, .int .i64 0] 125) := by
      have := heap_alloc_new (w1.alloc (.cells #[.slice A1 (headBytes s).length c1] 36)) (.cells #[.slice As s.length cs, .int .i64 0, .slice none 0 0, .int .i64 0] 125)
      simpa using this
    have h2 : ((w1.alloc (.cells #[.slice A1 (headBytes s).length c1] 36)).alloc (.cells #[.slice As s.length cs, .int .i64 0, .slice none 0 0, .int .i64 0] 125)).frozen? ⟨w1.heap.size + 1, o, none⟩ = false := by
      unfold World.frozen?
      simp only [hh]
      simp
    exact froz_by (bel_alloc (Below.refl _ _) _) (by simp) h2
  have hP : (((w1.alloc (.cells #[.slice A1 (headBytes s).length c1] 36)).alloc (.cells #[.slice As s.length cs, .int .i64 0, .slice none 0 0, .int .i64 0] 125)).alloc (.cells #[.pointer (some ⟨w1.heap.size + 1, 0, none⟩)] 123)).cell? ⟨w1.heap.size + 1 + 1, 0, none⟩ = some (.pointer (some ⟨w1.heap.size + 1, 0, none⟩)) := by
    have := (cell_new_l ((w1.alloc (.cells #[.slice A1 (headBytes s).length c1] 36)).alloc (.cells #[.slice As s.length cs, .int .i64 0, .slice none 0 0, .int .i64 0] 125)) (.pointer (some ⟨w1.heap.size + 1, 0, none⟩)) 123).1
    simpa using this
  refine ⟨0, [], fun j => F j ∧ j < w.heap.size, ⟨low, cell_al (cell_al (cell_al q0 _) _) _, ts, hP, ⟨⟨_, hS 0 _ rfl, ts⟩, ⟨hS 1 _ rfl, by unfold I64; omega⟩, ⟨_, hS 2 _ rfl, SL.nil _ _ _⟩, ⟨hS 3 _ rfl, by omega⟩, hfS, fun h => by omega⟩, by simpa [bodyBytes] using hbx, fun v hv g hg => ?_, fun h => by omega, fun h => by omega, fun h => by omega, fun z hz => Nat.lt_of_lt_of_le hz low.size, fun z hz => Nat.lt_of_lt_of_le hz.2 low.size, by simpa using Chain.nil, by simp⟩⟩
  rw [hcB] at hv
  injection hv with hv
  subst hv
  have h1 := ho1.lt g hg
  simp only [show (w.alloc ob).heap.size = w.heap.size + 1 by simp] at h1
  exact ⟨by omega, by omega, by omega, by omega, by omega⟩
set_option maxRecDepth 100000 in
set_option maxHeartbeats 2000000 in
theorem encode_calls (s : List Col) (es : List Entry) (vs vt : Value) (w : World) (F G : Nat → Prop) (hG : Glob w) (hs : SL colK w F vs s) (ht : SL entryK w G vt es) (hn : es.length ≤ 1099511627776) :
    Calls Tryz.prog 28 #[.agg #[vs, vt]] w (EncodePost s es w) := by
  obtain ⟨As, cs, rfl, _, _⟩ := hs.form
  obtain ⟨At, ct, rfl, _, _⟩ := ht.form
  have hba : Below w.heap.size w (w.alloc (.cells #[.slice As s.length cs, .slice At es.length ct] 46)) := bel_alloc (Below.refl _ _) _
  have HD := Lib.hid (head_calls s _ _ _ (hG.below hba) (hs.below hba))
  have HS := Lib.hid (And.intro hs (And.intro ht hG))
  clear hs ht hG
  have hmf : ∀ (fn : Fn) (first cap : Array Value) (w : World), (Instr.makeFunc fn first cap).run Tryz.prog w = .ok (.func fn first cap) w := fun _ _ _ _ => rfl
  have q0 := (cell_new2 w (.slice As s.length cs) (.slice At es.length ct) 46).1
  have q1 := (cell_new2 w (.slice As s.length cs) (.slice At es.length ct) 46).2
  by_cases h0 : schemaCheck s = 0
  · have H0 := Lib.hid h0
    rw [h0] at HD
    simp only [if_true] at HD
    clear h0
    go_enter Tryz.func28, Tryz.ntmps28
    go_wp2_with (first
      | (go_at_call 29; refine HD.out.mono ?_; rintro x w1 ⟨⟨v1, rfl, ho1⟩, hb1⟩; obtain ⟨A1, c1, rfl, _, _⟩ := ho1.sl.form; have q0' := cell_by hb1 q0; have q1' := cell_by hb1 q1; have q01 := cell_al q0' (.cells #[.slice A1 (headBytes s).length c1] 36); have q03 := cell_al (cell_al q01 (.cells #[.slice As s.length cs, .int .i64 0, .slice none 0 0, .int .i64 0] 125)) (.cells #[.pointer (some ⟨w1.heap.size + 1, 0, none⟩)] 123); have q13 := cell_al (cell_al (cell_al q1' (.cells #[.slice A1 (headBytes s).length c1] 36)) (.cells #[.slice As s.length cs, .int .i64 0, .slice none 0 0, .int .i64 0] 125)) (.cells #[.pointer (some ⟨w1.heap.size + 1, 0, none⟩)] 123)))
    have hz := hb1.size
    simp only [show (w.alloc (.cells #[.slice As s.length cs, .slice At es.length ct] 46)).heap.size = w.heap.size + 1 by simp] at hz
    have hbw : Below w.heap.size w w1 := bel_trans hba hb1
    have low : Below w.heap.size w (((w1.alloc (.cells #[.slice A1 (headBytes s).length c1] 36)).alloc (.cells #[.slice As s.length cs, .int .i64 0, .slice none 0 0, .int .i64 0] 125)).alloc (.cells #[.pointer (some ⟨w1.heap.size + 1, 0, none⟩)] 123)) := bel_alloc (bel_alloc (bel_alloc hbw _) _) _
    have hI := encI_start (es := es) HS.out.1 hb1 q0' ho1
    have hW : Where w.heap.size (w1.heap.size + 1 + 1) (w1.heap.size + 1) w1.heap.size w := ⟨HS.out.2.2, by omega, by omega, by omega, by omega, by omega, by omega⟩
    have hT : Taker 65 (fun x => #[] ++ #[x] ++ #[.pointer (some ⟨w1.heap.size + 1 + 1, 0, none⟩), .pointer (some ⟨w.heap.size, 0, none⟩), .pointer (some ⟨w1.heap.size, 0, none⟩)]) es (EncInv s es As cs w.heap.size (w1.heap.size + 1 + 1) (w1.heap.size + 1) w1.heap.size w) (EncBad s es w) :=
      ⟨fun Z k W o ⟨seq, view, FV, h⟩ => ⟨seq, view, FV, encI_al h o⟩, fun Z k W vp hk G ⟨seq, view, FV, h⟩ hp hGZ => enc_take h hW H0.out es[k] hk rfl vp G hp hGZ⟩
    refine (all_calls _ #[] _ es _ _ enc_enter hT As s.length cs _ _ _ _ (HS.out.2.1.since low) (fun k h => h.2) hI hn).mono ?_
    rintro x w4 ⟨⟨n, ec, rfl, hgo, hbad⟩, hK4, hz4⟩
    by_cases hec : ec = 0
    · subst hec
      obtain ⟨rfl, Z', hZ', seq, view, FV, hE⟩ := hgo rfl
      clear hbad
      obtain ⟨⟨vo, y1, y2, y3⟩, y4, y5⟩ := hE.bx
      have HE := Lib.hid (And.intro hE y2)
      clear hE y2 hI hT
      go_wp2
      refine bodyPost_ret (results_tmp3 rfl _ _ _) rfl ⟨⟨vo, es.length, 0, _, rfl, HE.out.2, .inr (.inl ⟨⟨H0.out, ⟨seq, view, by have := HE.out.1.run; rwa [List.take_length] at this⟩, by have := HE.out.1.ok; rwa [List.take_length] at this⟩, rfl, rfl, by rw [List.take_length]; rfl⟩)⟩, HE.out.1.low⟩
    · have e0 := bne_true hec
      obtain ⟨hlt, hlow, seq, view, hr, hok, hk, hf⟩ := hbad hec
      have HX := Lib.hid (And.intro hec (And.intro hr (And.intro hok hf)))
      clear hec hgo hbad hr hok hf hI hT
      go_wp2
      refine bodyPost_ret (results_tmp3 rfl _ _ _) rfl ⟨⟨_, n, ec, [], rfl, Own.nil _ _ _ _ _, .inr (.inr ⟨H0.out, HX.out.1, rfl, n, rfl, seq, view, HX.out.2.1, HX.out.2.2.1, hk, HX.out.2.2.2⟩)⟩, hlow⟩
  · have HD' : Calls Tryz.prog 29 #[.slice As s.length cs] (w.alloc (.cells #[.slice As s.length cs, .slice At es.length ct] 46)) fun e w' => (∃ vo, e = .returned (.tuple #[vo, .int .i64 (schemaCheck s)]) ∧ ∃ A n c, vo = .slice A n c) ∧ Below (w.alloc (.cells #[.slice As s.length cs, .slice At es.length ct] 46)).heap.size (w.alloc (.cells #[.slice As s.length cs, .slice At es.length ct] 46)) w' := HD.out.mono fun e w' ⟨⟨vo, h1, h2⟩, h3⟩ => by
      obtain ⟨A, c, h4, _⟩ := h2.sl.form
      exact ⟨⟨vo, h1, A, _, c, h4⟩, h3⟩
    obtain ⟨sc, hsc⟩ : ∃ x, schemaCheck s = x := ⟨_, rfl⟩
    rw [hsc] at HD' h0
    have HD2 := Lib.hid HD'
    have HSC := Lib.hid (And.intro hsc h0)
    have e0 := bne_true h0
    clear hsc h0 HD' HD
    go_enter Tryz.func28, Tryz.ntmps28
    go_wp2_with (first
      | (go_at_call 29; refine HD2.out.mono ?_; rintro x w1 ⟨⟨v1, rfl, A1, n1, c1, rfl⟩, hb1⟩))
    refine bodyPost_ret (results_tmp3 rfl _ _ _) rfl ⟨⟨_, 0, sc, [], rfl, Own.nil _ _ _ _ _, .inl ⟨by rw [HSC.out.1]; exact HSC.out.2, rfl, rfl, HSC.out.1.symm⟩⟩, ?_⟩
    exact bel_alloc (bel_trans hba hb1) _
end Go.Proofs.YtlhdndnohmikeaaGreatDoor

set_option linter.unusedVariables false
set_option linter.unusedSimpArgs false
namespace Go.Proofs.YtlhdndnohmikeaaGreatDoor
open Go.RowKit

structure ViewI (s : List Col) (es : List Entry) (S : Nat) (w0 : World) (Z : Nat → Prop) (k : Nat) (W : World) (seq : Int) (view : List Pair) (FV : Nat → Prop) : Prop where
  low : Below w0.heap.size w0 W
  st : St W S FV s seq view k
  zs : ¬ Z S
  zl : ∀ z, Z z → z < W.heap.size
  fl : ∀ z, FV z → z < W.heap.size
  run : Chain s (es.take k) seq view
def ViewInv (s : List Col) (es : List Entry) (S : Nat) (w0 : World) (Z : Nat → Prop) (k : Nat) (W : World) : Prop := ∃ seq view FV, ViewI s es S w0 Z k W seq view FV
/-- Why no view follows. -/
def Stops (s : List Col) (k : Nat) (seq : Int) (view : List Pair) (e : Entry) (ec : Int) : Prop := ec ≠ 0 ∧ ((4096 ≤ k ∧ ec = 13) ∨ (k < 4096 ∧ ∃ n out, Applied s seq view e n out ec))
def ViewBad (s : List Col) (es : List Entry) (S : Nat) (w0 : World) (k : Nat) (ec : Int) (W : World) : Prop :=
  ∃ seq view FV, Below w0.heap.size w0 W ∧ St W S FV s seq view k ∧ Chain s (es.take k) seq view ∧ ∃ h : k < es.length, Stops s k seq view es[k] ec
theorem viewI_al {s : List Col} {es : List Entry} {S : Nat} {w0 : World} {Z FV : Nat → Prop} {k : Nat} {W : World} {seq : Int} {view : List Pair} (h : ViewI s es S w0 Z k W seq view FV) (o : Obj) :
    ViewI s es S w0 (fun z => Z z ∨ z = W.heap.size) k (W.alloc o) seq view FV := by
  have hb : Below W.heap.size W (W.alloc o) := bel_alloc (Below.refl _ _) o
  have hS := World.block_lt_of_cell? W _ h.st.c1.1
  refine ⟨bel_alloc h.low o, h.st.below hb, fun hz => hz.elim h.zs fun e => by simp at hS; omega, fun z hz => ?_, fun z hz => ?_, h.run⟩
  · rcases hz with hz | hz
    · have := h.zl z hz; simp; omega
    · simp; omega
  · have := h.fl z hz; simp; omega
theorem view_take {s : List Col} {es : List Entry} {S : Nat} {w0 : World} {Z FV : Nat → Prop} {k : Nat} {w : World} {seq : Int} {view : List Pair} (hI : ViewI s es S w0 Z k w seq view FV) (hG : Glob w0) (hs0 : w0.heap.size ≤ S)
    (e : Entry) (hk : k < es.length) (he : es[k] = e) (vp : Value) (G : Nat → Prop) (hp : SL pairK w G vp e.pairs) (hGZ : ∀ z, G z → Z z) :
    Calls Tryz.prog 66 (#[.pointer (some ⟨S, 0, none⟩)] ++ #[.agg #[.int .i64 e.kind, .int .i64 e.seq, vp]] ++ #[]) w (TakerPost (ViewInv s es S w0) (ViewBad s es S w0) Z k w) := by
  refine (take_calls S FV G s seq view k e vp w (hG.below hI.low) hI.st hp).mono fun x W' htp => ?_
  by_cases h4 : 4096 ≤ k
  · obtain ⟨rfl, hb⟩ := takePost_full htp h4
    exact ⟨13, rfl, fun h => by omega, fun _ => ⟨seq, view, FV, bel_trans hI.low hb, hI.st.below hb, hI.run, hk, by omega, .inl ⟨h4, rfl⟩⟩, Kept.of_below hb, hb.size⟩
  · obtain ⟨n, out, ec, rfl, hap, hst, hbl⟩ := takePost_free htp h4
    refine ⟨ec, rfl, fun h => ?_, fun h => ?_, ?_, ?_⟩
    · subst h
      obtain ⟨h1, hg⟩ := hst rfl
      refine ⟨n, out, _, bel_grow1 hI.low hg hs0, h1.bound, hI.zs, fun z hz => Nat.lt_of_lt_of_le (hI.zl z hz) hg.size, fun z hz => hz.2, ?_⟩
      rw [List.take_succ_eq_append_getElem hk, he]
      exact .snoc hI.run (by rw [List.length_take]; omega) hap
    · have hb := hbl h
      exact ⟨seq, view, FV, bel_trans hI.low hb, hI.st.below hb, hI.run, hk, h, .inr ⟨by omega, n, out, he ▸ hap⟩⟩
    · by_cases h : ec = 0
      · exact Kept.of_grown (hst h).2 fun k hk => by injection hk with hk; subst hk; exact hI.zs
      · exact Kept.of_below (hbl h)
    · by_cases h : ec = 0
      · exact (hst h).2.size
      · exact (hbl h).size
/-- What the view at a trace's end is. -/
def Viewed (s : List Col) (es : List Entry) (seq : Int) (view : List Pair) (ec : Int) : Prop :=
  (∃ out n, Encoded s es out n ec ∧ ec ≠ 0 ∧ seq = 0 ∧ view = []) ∨
  (Good1 s es ∧ ec = 0 ∧ Chain s es seq view) ∨
  (Good1 s es ∧ ∃ k sq vw, Chain s (es.take k) sq vw ∧ ∃ h : k < es.length, Stops s k sq vw es[k] ec)
def ViewPost (s : List Col) (es : List Entry) (w : World) (x : Ending) (w' : World) : Prop :=
  (∃ vo seq view ec, x = .returned (.tuple #[.int .i64 seq, vo, .int .i64 ec]) ∧ SL pairK w' (fun _ => True) vo view ∧ Viewed s es seq view ec) ∧ Below w.heap.size w w'
theorem take_enter (args : Array Value) (W : World) : (callFunc 66 args).run Tryz.prog W = .ok (.enter 66 args) W := by kernel_rfl
theorem viewI_start {s : List Col} {es : List Entry} {As : Option Addr} {cs : Nat} {w w1 : World} {F : Nat → Prop} (hs : SL colK w F (.slice As s.length cs) s) (hb1 : Below w.heap.size w w1) :
    ViewInv s es w1.heap.size w (fun z => z < w.heap.size) 0 (w1.alloc (.cells #[.slice As s.length cs, .int .i64 0, .slice none 0 0, .int .i64 0] 125)) := by
  have low : Below w.heap.size w (w1.alloc (.cells #[.slice As s.length cs, .int .i64 0, .slice none 0 0, .int .i64 0] 125)) := bel_alloc hb1 _
  have hz := hb1.size
  have ts := hs.since low
  have hh : (w1.alloc (.cells #[.slice As s.length cs, .int .i64 0, .slice none 0 0, .int .i64 0] 125)).heap[w1.heap.size]? = some (.cells #[.slice As s.length cs, .int .i64 0, .slice none 0 0, .int .i64 0] 125) := heap_alloc_new w1 _
  have hS : ∀ o u, (#[Value.slice As s.length cs, .int .i64 0, .slice none 0 0, .int .i64 0] : Array Value)[o]? = some u → (w1.alloc (.cells #[.slice As s.length cs, .int .i64 0, .slice none 0 0, .int .i64 0] 125)).cell? ⟨w1.heap.size, o, none⟩ = some u := fun o u h => by
    rw [cell_of_row _ _ _ _ _ _ hh]
    exact h
  have hfS : ∀ o, (w1.alloc (.cells #[.slice As s.length cs, .int .i64 0, .slice none 0 0, .int .i64 0] 125)).frozen? ⟨w1.heap.size, o, none⟩ = false := fun o => by
    unfold World.frozen?
    simp only [hh]
    simp
  exact ⟨0, [], fun j => F j ∧ j < w.heap.size, ⟨low, ⟨⟨_, hS 0 _ rfl, ts⟩, ⟨hS 1 _ rfl, by unfold I64; omega⟩, ⟨_, hS 2 _ rfl, SL.nil _ _ _⟩, ⟨hS 3 _ rfl, by omega⟩, hfS, fun h => by omega⟩, fun h => by omega, fun z hz => Nat.lt_of_lt_of_le hz low.size, fun z hz => Nat.lt_of_lt_of_le hz.2 low.size, by simpa using Chain.nil⟩⟩
set_option maxRecDepth 100000 in
set_option maxHeartbeats 2000000 in
theorem view_calls (s : List Col) (es : List Entry) (vs vt : Value) (w : World) (F G : Nat → Prop) (hG : Glob w) (hs : SL colK w F vs s) (ht : SL entryK w G vt es) (hn : es.length ≤ 1099511627776) :
    Calls Tryz.prog 30 #[.agg #[vs, vt]] w (ViewPost s es w) := by
  obtain ⟨As, cs, rfl, _, _⟩ := hs.form
  obtain ⟨At, ct, rfl, _, _⟩ := ht.form
  have hba : Below w.heap.size w (w.alloc (.cells #[.slice As s.length cs, .slice At es.length ct] 46)) := bel_alloc (Below.refl _ _) _
  have EN := Lib.hid (encode_calls s es _ _ _ _ _ (hG.below hba) (hs.below hba) (ht.below hba) hn)
  have HS := Lib.hid (And.intro hs (And.intro ht hG))
  clear hs ht hG
  have hmf : ∀ (fn : Fn) (first cap : Array Value) (w : World), (Instr.makeFunc fn first cap).run Tryz.prog w = .ok (.func fn first cap) w := fun _ _ _ _ => rfl
  have q0 := (cell_new2 w (.slice As s.length cs) (.slice At es.length ct) 46).1
  have q1 := (cell_new2 w (.slice As s.length cs) (.slice At es.length ct) 46).2
  go_enter Tryz.func30, Tryz.ntmps30
  go_wp2_with fail
  refine EN.out.mono ?_
  rintro x w1 ⟨⟨v1, n1, e1, out1, rfl, ho1, hE1⟩, hb1⟩
  obtain ⟨A1, c1, rfl, _, _⟩ := ho1.sl.form
  by_cases he : e1 = 0
  · subst he
    have hgood : Good1 s es := by
      rcases hE1 with ⟨h, _, _, h2⟩ | ⟨h, _⟩ | ⟨_, h, _⟩
      · exact absurd h2.symm h
      · exact h
      · exact absurd rfl h
    have HGo := Lib.hid hgood
    clear hE1 hgood ho1
    have q0' := cell_by hb1 q0
    have q1' := cell_by hb1 q1
    have q02 := cell_al q0' (.cells #[.slice As s.length cs, .int .i64 0, .slice none 0 0, .int .i64 0] 125)
    have q12 := cell_al q1' (.cells #[.slice As s.length cs, .int .i64 0, .slice none 0 0, .int .i64 0] 125)
    have hbw : Below w.heap.size w w1 := bel_trans hba hb1
    have low : Below w.heap.size w (w1.alloc (.cells #[.slice As s.length cs, .int .i64 0, .slice none 0 0, .int .i64 0] 125)) := bel_alloc hbw _
    have hI := viewI_start (es := es) HS.out.1 hbw
    have hT : Taker 66 (fun x => #[.pointer (some ⟨w1.heap.size, 0, none⟩)] ++ #[x] ++ #[]) es (ViewInv s es w1.heap.size w) (ViewBad s es w1.heap.size w) :=
      ⟨fun Z k W o ⟨seq, view, FV, h⟩ => ⟨seq, view, FV, viewI_al h o⟩, fun Z k W vp hk G ⟨seq, view, FV, h⟩ hp hGZ => view_take h HS.out.2.2 hbw.size es[k] hk rfl vp G hp hGZ⟩
    have AC := Lib.hid (all_calls _ #[.pointer (some ⟨w1.heap.size, 0, none⟩)] #[] es _ _ take_enter hT As s.length cs _ _ _ _ (HS.out.2.1.since low) (fun k h => h.2) hI hn)
    clear hI hT
    go_wp2_with fail
    refine AC.out.mono ?_
    rintro x w4 ⟨⟨n, ec, rfl, hgo, hbad⟩, hK4, hz4⟩
    have hout : ∃ k sq vw FV, St w4 w1.heap.size FV s sq vw k ∧ Below w.heap.size w w4 ∧ Viewed s es sq vw ec := by
      by_cases hec : ec = 0
      · obtain ⟨_, Z', _, sq, vw, FV, h⟩ := hgo hec
        exact ⟨_, sq, vw, FV, h.st, h.low, .inr (.inl ⟨HGo.out, hec, by have := h.run; rwa [List.take_length] at this⟩)⟩
      · obtain ⟨_, sq, vw, FV, hl, hst, hr, hk, hs⟩ := hbad hec
        exact ⟨_, sq, vw, FV, hst, hl, .inr (.inr ⟨HGo.out, n, sq, vw, hr, hk, hs⟩)⟩
    obtain ⟨k, sq, vw, FV, ⟨⟨vs, a0, hs0⟩, ⟨a1, hsq⟩, ⟨vv, a2, hv⟩, _, _, _⟩, hl, hV⟩ := hout
    obtain ⟨vA, vc, rfl, _, _⟩ := hv.form
    have HV := Lib.hid (And.intro hV hv)
    clear hgo hbad hV hv hs0 a0
    go_wp2
    go_quiet (fail)
    go_wp2
    exact bodyPost_ret (results_tmp3 rfl _ _ _) rfl ⟨⟨_, sq, vw, ec, rfl, (HV.out.2.any).drewN _, HV.out.1⟩, bel_drewN hl _⟩
  · have e0 := bne_true he
    have HE := Lib.hid (And.intro he hE1)
    clear he hE1 ho1
    go_wp2
    exact bodyPost_ret (results_tmp3 rfl _ _ _) rfl ⟨⟨_, 0, [], e1, rfl, SL.nil _ _ _, .inl ⟨_, _, HE.out.2, HE.out.1, rfl, rfl⟩⟩, bel_trans hba hb1⟩
end Go.Proofs.YtlhdndnohmikeaaGreatDoor
