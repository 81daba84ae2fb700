/-
  Walks: schema.Read, where nothing is wrong.
  Walks: bytes.Equal and HasPrefix; schema.Print; a trace's head, read.
  Walks: a trace without entries, read.
  Walks: law 13's alive.
-/
import Derived.Test.YtlhdndnohmikeaaGreatDoorW47
import Derived.Test.YtlhdndnohmikeaaGreatDoorW30
import Derived.Test.YtlhdndnohmikeaaGreatDoorW34
import Derived.Lib.SlBytesConst
import Derived.Test.YtlhdndnohmikeaaGreatDoorMW41
set_option linter.unusedVariables false
set_option linter.unusedSimpArgs false
namespace Go.Proofs.YtlhdndnohmikeaaGreatDoor
open Go.RowKit

theorem schemaBody_app (a b : List Col) : schemaBody (a ++ b) = schemaBody a ++ schemaBody b := by
  induction a with
  | nil => simp [schemaBody]
  | cons x xs ih => simp [schemaBody, ih]
/-- Where column k's bytes begin. -/
def colAt (s : List Col) (k : Nat) : Nat := (wireUint (s.length : Int)).length + (schemaBody (s.take k)).length
theorem colAt_drop (s : List Col) (k : Nat) : (schemaBytes s).drop (colAt s k) = schemaBody (s.drop k) := by
  unfold schemaBytes colAt
  rw [List.drop_length_add_append]
  conv => lhs; arg 2; rw [← List.take_append_drop k s, schemaBody_app]
  rw [List.drop_left']
  rfl
theorem colAt_succ (s : List Col) (k : Nat) (h : k < s.length) : colAt s (k + 1) = colAt s k + (wireBytes (strBytes s[k].name)).length + 1 := by
  unfold colAt
  rw [List.take_add_one, List.getElem?_eq_getElem h, Option.toList_some, schemaBody_snoc]
  simp only [List.length_append, List.length_cons, List.length_nil]
  omega
theorem colAt_all (s : List Col) : colAt s s.length = (schemaBytes s).length := by
  unfold colAt schemaBytes
  rw [List.take_length, List.length_append]
/-- string(b). -/
theorem str_of_sl {w : World} {F : Nat → Prop} {v : Value} {bs : List UInt8} (h : SL byteK w F v bs) : (convert 36 9 v).run Tryz.prog w = .ok (.string ⟨bs.toArray⟩) w := by
  obtain ⟨A, c, rfl, _, _⟩ := h.form
  rcases A with _ | a
  · have hb : bs = [] := by
      rcases bs with _ | ⟨b, bs⟩
      · rfl
      · obtain ⟨ad, h1, _⟩ := byte_at h (i := 0) (by simp)
        cases h1
    subst hb
    rw [run_convert_bytes_string w _ _ _ none _ c Tryz.underlying36 Tryz.underlying5 Tryz.underlying9]
    simp [Conv.bytesToString, Sem.run_pure]
    rfl
  · refine run_convert_bytes_back w _ _ _ a c bs Tryz.underlying36 Tryz.underlying5 Tryz.underlying9 fun j hj => ?_
    obtain ⟨ad, h1, _, h2⟩ := byte_at h hj
    injection h1 with h1
    subst h1
    rw [h2]
    simp [hj]
theorem strBytes_back (s : ByteArray) : (⟨(strBytes s).toArray⟩ : ByteArray) = s := by
  unfold strBytes
  simp
/-- What schema.Read holds while it reads. -/
structure Sch (w : World) (SP mb : Nat) (v : Value) (l : List ByteArray) (cs : List Col) : Prop where
  sn : SeenAt w mb l
  c : w.cell? ⟨SP, 0, none⟩ = some v
  fz : w.frozen? ⟨SP, 0, none⟩ = false
  own : Own colK 87 w (mb + 1) (fun _ => False) v cs
  lt : SP < mb
section
variable {w w' : World} {SP mb : Nat} {v : Value} {l : List ByteArray} {cs : List Col}
theorem Sch.below (h : Sch w SP mb v l cs) (hb : Below w.heap.size w w') : Sch w' SP mb v l cs :=
  ⟨h.sn.below hb, cell_by hb h.c, froz_by hb (World.block_lt_of_cell? w _ h.c) h.fz, h.own.below hb, h.lt⟩
theorem grown_froz {row : Option Nat} {b o : Nat} (hg : w.grownBy w' row) (hr : row ≠ some b) (hl : b < w.heap.size) (h : w.frozen? ⟨b, o, none⟩ = false) : w'.frozen? ⟨b, o, none⟩ = false :=
  (World.frozen?_of_block (w := w) (a := ⟨b, o, none⟩) (hg.block b hl (fun e => hr e.symm))).trans h
theorem Sch.grown (h : Sch w SP mb v l cs) {b : Nat} (hg : w.grownBy w' (some b)) (hb : b < mb) (hs : b ≠ SP) : Sch w' SP mb v l cs :=
  ⟨h.sn.kept hg (by simp; omega), cell_grown hg (by simp; omega) h.c, grown_froz hg (by simp; omega) (World.block_lt_of_cell? w _ h.c) h.fz, h.own.keep hg fun k hk => ⟨fun e => by injection hk with hk; have := (h.own.lt k e).1; omega, fun h => h⟩, h.lt⟩
theorem Sch.seen (h : Sch w SP mb v l cs) {l' : List ByteArray} (hs : SeenAt w' mb l') (hg : w.grownBy w' (some mb)) : Sch w' SP mb v l' cs :=
  ⟨hs, cell_grown hg (by have := h.lt; simp; omega) h.c, grown_froz hg (by have := h.lt; simp; omega) (World.block_lt_of_cell? w _ h.c) h.fz, h.own.keep hg fun k hk => ⟨fun e => by injection hk with hk; have := (h.own.lt k e).1; omega, fun h => h⟩, h.lt⟩
theorem Sch.set (h : Sch w SP mb v l cs) {b o : Nat} (u : Value) (h1 : mb < b) (h2 : ∀ k, v.ownBlock = some k → k ≠ b) : Sch (w.setCell ⟨b, o, none⟩ u) SP mb v l cs := by
  have hlt := h.lt
  have hg : w.grownBy (w.setCell ⟨b, o, none⟩ u) (some b) := gset u (gbel (Below.refl _ _) b)
  exact ⟨h.sn.kept hg (by simp; omega), cell_grown hg (by simp; omega) h.c, grown_froz hg (by simp; omega) (World.block_lt_of_cell? w _ h.c) h.fz, h.own.keep hg fun k hk => ⟨fun e => by injection hk with hk; exact h2 k e hk.symm, fun h => h⟩, hlt⟩
end
theorem Rd.grown {w w' : World} {R : Nat} {F : Nat → Prop} {bs : List UInt8} {n : Nat} (h : Rd w R F bs n) {row : Option Nat} (hg : w.grownBy w' row) (hr : ∀ k, row = some k → k ≠ R ∧ ¬ F k) : Rd w' R F bs n :=
  h.keep (Kept.of_grown hg fun k hk hF => hF.elim (hr k hk).2 (hr k hk).1) hg.size
theorem Only.bel {M : Nat → Prop} {w w' w'' : World} {B : Nat} (h : Only M w w') (k : Below B w' w'') (hB : w.heap.size ≤ B) : Only M w w'' :=
  ⟨k.os.trans h.os, k.tape.trans h.tape, k.output.trans h.output, Nat.le_trans h.size k.size, fun j hj hn => (k.block j (Nat.lt_of_lt_of_le hj hB)).trans (h.block j hj hn)⟩
theorem bel_of_grown1 {w w' : World} {b B : Nat} (hg : w.grownBy w' (some b)) (hB : B ≤ b) (hs : B ≤ w.heap.size) : Below B w w' :=
  ⟨hg.os, hg.tape, hg.output, hg.size, fun k hk => hg.block k (by omega) (by simp; omega)⟩
theorem colK_new (w : World) (c : Col) (h1 : 0 ≤ c.kind ∧ c.kind < 256) (h2 : c.name.size ≤ 32) : SL colK (w.alloc (.cells #[.string c.name, .int .i64 c.kind] 87)) (fun k => k = w.heap.size) (.slice (some ⟨w.heap.size, 0, none⟩) 1 1) [c] := by
  have hr : colK.rel w (fun _ => False) c [.string c.name, .int .i64 c.kind] := ⟨rfl, ⟨by omega, by omega⟩, by unfold maxLen; omega⟩
  exact (SL.single 87 hr).wid fun k hk _ => hk.elim False.elim id
theorem Sch.grow {w w' : World} {SP mb : Nat} {v v' : Value} {l : List ByteArray} {cs cs' : List Col} (h : Sch w SP mb v l cs) (hg : w.grownBy w' v.ownBlock) (ho : Own colK 87 w' (mb + 1) (fun _ => False) v' cs') : Sch (w'.setCell ⟨SP, 0, none⟩ v') SP mb v' l cs' := by
  have hlt := h.lt
  have hSP := World.block_lt_of_cell? w _ h.c
  have hSP' : SP < w.heap.size := hSP
  have hn : ∀ k, k ≤ mb → v.ownBlock ≠ some k := fun k hk e => by have := (h.own.lt k e).1; omega
  have hg2 : w'.grownBy (w'.setCell ⟨SP, 0, none⟩ v') (some SP) := gset v' (gbel (Below.refl _ _) SP)
  have hml := h.sn.lt
  exact ⟨(h.sn.kept hg (hn mb (Nat.le_refl _)).symm).kept hg2 (by simp; omega), cell_set_on (cell_grown hg (hn SP (by omega)) h.c), (World.frozen?_setCell ..).trans (grown_froz hg (hn SP (by omega)) hSP' h.fz), ho.keep hg2 fun k hk => by injection hk with hk; subst hk; exact ⟨fun e => by have := (ho.lt _ e).1; omega, fun h => h⟩, hlt⟩
theorem RdSet {w : World} {R : Nat} {F : Nat → Prop} {bs : List UInt8} {n b o : Nat} (h : Rd w R F bs n) (u : Value) (h1 : b ≠ R) (h2 : ¬ F b) : Rd (w.setCell ⟨b, o, none⟩ u) R F bs n :=
  h.grown (gset u (gbel (Below.refl _ _) b)) fun k hk => by injection hk with hk; subst hk; exact ⟨h1, h2⟩
set_option maxRecDepth 100000 in
set_option maxHeartbeats 4000000 in
theorem schemaRead1_calls (s : List Col) (h0 : schemaCheck s = 0) (SP : Nat) (w w0 : World) (hG : Glob w0) (hb0 : Below w0.heap.size w0 w) (hS0 : w0.heap.size ≤ SP) (hsp : w.cell? ⟨SP, 0, none⟩ = some (.slice none 0 0)) (hfz : w.frozen? ⟨SP, 0, none⟩ = false) :
    Reads 200 #[.pointer (some ⟨SP, 0, none⟩)] (schemaBytes s) (fun k => k = SP) (fun W => ∃ v, W.cell? ⟨SP, 0, none⟩ = some v ∧ SL colK W (fun k => w.heap.size + 4 ≤ k) v s) w := by
  intro W R F hbW hR hsz hrd hF
  have hfine := schemaCheck_fine h0
  have h8 := schemaCheck_len h0
  have hl0 : colLoop s [] = 0 := by
    unfold schemaCheck at h0
    rw [if_neg (by omega), if_neg (by omega)] at h0
    exact h0
  have hGG := Lib.hid (fun W' (h : Only (fun k => k = R ∨ k = SP) W W') => hG.below ⟨h.os.trans (hbW.os.trans hb0.os), h.tape.trans (hbW.tape.trans hb0.tape), h.output.trans (hbW.output.trans hb0.output), Nat.le_trans hb0.size (Nat.le_trans hbW.size h.size), fun j hj => (h.block j (by have := hb0.size; have := hbW.size; omega) (by have := hb0.size; omega)).trans ((hbW.block j (by have := hb0.size; omega)).trans (hb0.block j hj))⟩)
  have hbl : (schemaBytes s).length ≤ 1099511627776 := by
    have h1 := schemaBody_len s fun c hc => (hfine c hc).1
    have h2 := wireUint_len10 (s.length : Int)
    unfold schemaBytes
    rw [List.length_append]
    omega
  have hSP := World.block_lt_of_cell? w _ hsp
  have hSP' : SP < w.heap.size := hSP
  have hsp' := cell_by hbW hsp
  have hfz' := froz_by hbW hSP' hfz
  have hmm := @run_makeMap Tryz.prog
  have hc0 : colAt s 0 = (wireUint (s.length : Int)).length := by simp [colAt, schemaBody]
  have RU := Lib.hid (ruint_calls R F (schemaBytes s) 0 s.length 8 (schemaBody s) W hrd (by omega) h8.2 (by omega) rfl hbl)
  rw [Nat.zero_add, ← hc0] at RU
  have MU := Lib.hid (fun W n x (h : Rd W R F (schemaBytes s) n) => must_calls R F (schemaBytes s) n x W h)
  have hs0 : (0 : Int) < s.length := by omega
  have HBL := Lib.hid hbl
  clear hrd hc0 hbl h0 hsp hfz
  show Calls Tryz.prog 200 #[.pointer (some ⟨R, 0, none⟩), .pointer (some ⟨SP, 0, none⟩)] W _
  go_enter Tryz.func200, Tryz.ntmps200
  go_wp2_with (first
    | (go_at_call 133; refine RU.out.mono ?_; rintro e w1 ⟨rfl, hrd1, hg1⟩)
    | (go_at_call 131; refine (MU.out _ _ _ hrd1).mono ?_; rintro e w2 ⟨rfl, rfl⟩))
  have hz1 := hg1.size
  have hmb : SP < w1.heap.size := by omega
  have hRmb : R < w1.heap.size := by omega
  have hsc : Sch (w1.alloc (.map #[] 0)) SP w1.heap.size (.slice none 0 0) [] [] :=
    ⟨SeenAt.made w1, cell_al (cell_grown hg1 (by simp; omega) hsp') _, froz_al hmb (grown_froz hg1 (by simp; omega) (by omega) hfz') _, Own.nil _ _ _ _ _, hmb⟩
  have hon : Only (fun k => k = R ∨ k = SP) W (w1.alloc (.map #[] 0)) := (Only.of_grown hg1 (.inl rfl)).tr (Only.alloc _ _ _)
  have hrd2 := hrd1.below (bel_alloc (Below.refl _ _) (.map #[] 0))
  have H0 := Lib.hid (And.intro hsc (And.intro hon hrd2))
  generalize hmbe : w1.heap.size = mb at *
  clear hsc hon hrd2 hrd1 hsp' hfz' hg1
  go_loopw [14] (fun i wr => ∃ (k : Nat) (l : List ByteArray) (v : Value), k ≤ s.length ∧ i = .int .u64 k ∧ l.length ≤ k ∧ Hid (colLoop (s.drop k) l = 0) ∧ Hid (Sch wr SP mb v l (s.take k)) ∧ Hid (Only (fun k => k = R ∨ k = SP) W wr) ∧ Hid (Rd wr R F (schemaBytes s) (colAt s k))) (fun i _ => s.length - (intOf i).toNat)
  case atStart => exact ⟨0, [], _, by omega, by simp, by simp, hl0, H0.out.1, H0.out.2.1, H0.out.2.2⟩
  case round =>
    obtain ⟨k, l, v, hk, rfl, hll, HT, HS, HO, HR⟩ := hrel
    by_cases hlt : k < s.length
    · have k0 : (k : Int) < s.length := by omega
      have hcl : colLoop (s.drop k) l = if 32 < (s[k].name.size : Int) then 7 else if (!(nameB s[k].name && !memB s[k].name l)) = true then 2 else if (!colKindB s[k].kind) = true then 10 else colLoop (s.drop (k + 1)) (s[k].name :: l) := by
        rw [List.drop_eq_getElem_cons hlt, colLoop]
      rw [HT.out] at hcl
      have hfk := hfine s[k] (List.getElem_mem hlt)
      have htb : (nameB s[k].name && !memB s[k].name l) = true := by
        cases h : (nameB s[k].name && !memB s[k].name l) with
        | true => rfl
        | false => rw [if_neg (by omega), h] at hcl; simp at hcl
      have hkb : colKindB s[k].kind = true := by
        cases h : colKindB s[k].kind with
        | true => rfl
        | false => rw [if_neg (by omega), htb, h] at hcl; simp at hcl
      have hT' : colLoop (s.drop (k + 1)) (s[k].name :: l) = 0 := by
        rw [if_neg (by omega), htb, hkb] at hcl; simpa using hcl.symm
      have HT' := Lib.hid hT'
      have hca : s.take (k + 1) = s.take k ++ [s[k]] := by rw [List.take_add_one, List.getElem?_eq_getElem hlt]; rfl
      have HCA := Lib.hid hca
      have HCN := Lib.hid (colAt_succ s k hlt)
      have hkind : ((UInt8.ofNat s[k].kind.toNat).toNat : Int) = s[k].kind := u8_of _ hfk.2.1 hfk.2.2
      have hdr := colAt_drop s k
      rw [List.drop_eq_getElem_cons hlt, schemaBody] at hdr
      have hdr2 : (schemaBytes s).drop (colAt s k + (wireBytes (strBytes s[k].name)).length) = UInt8.ofNat s[k].kind.toNat :: schemaBody (s.drop (k + 1)) := by
        rw [← List.drop_drop, hdr, List.drop_left']
        rfl
      have hbk : (schemaBytes s).getD (colAt s k + (wireBytes (strBytes s[k].name)).length) 0 = UInt8.ofNat s[k].kind.toNat := by
        rw [List.getD_eq_getElem?_getD, ← List.head?_drop, hdr2]; rfl
      have hlk : colAt s k + (wireBytes (strBytes s[k].name)).length < (schemaBytes s).length := by
        have : ((schemaBytes s).drop (colAt s k + (wireBytes (strBytes s[k].name)).length)).length ≠ 0 := by rw [hdr2]; simp
        rw [List.length_drop] at this; omega
      have RB := Lib.hid (rbytes_calls R F (schemaBytes s) (colAt s k) 32 (strBytes s[k].name) (UInt8.ofNat s[k].kind.toNat :: schemaBody (s.drop (k + 1))) wr HR.out (by rw [strBytes_len]; exact hfk.1) (by omega) hdr HBL.out)
      have BY := Lib.hid (fun W (h : Rd W R F (schemaBytes s) (colAt s k + (wireBytes (strBytes s[k].name)).length)) => rbyte_calls R F (schemaBytes s) (colAt s k + (wireBytes (strBytes s[k].name)).length) W h hlk HBL.out)
      rw [hbk, hkind] at BY
      have hnm := strBytes_back s[k].name
      have TK := Lib.hid (fun W (h : SeenAt W mb l) => htb ▸ seenTake_calls mb l s[k].name W h (by unfold maxLen; omega) (by omega))
      have KK := Lib.hid (fun W (h : Glob W) => hkb ▸ schemaKindly_calls s[k].kind W h)
      have CN := Lib.hid (fun W => colK_new W s[k] hfk.2 hfk.1)
      have hlen1 : (s.take k).length = k := by rw [List.length_take]; omega
      obtain ⟨Av, cv, rfl, _, _⟩ := HS.out.own.sl.form
      rw [hlen1] at HS
      have HF := Lib.hid hF
      have hml := HS.out.sn.lt
      have hmW : W.heap.size ≤ mb := by omega
      have HLA : Hid ((s.take k ++ [s[k]]).length = k + 1) := by show _ = _; rw [List.length_append, hlen1]; rfl
      clear hcl htb hkb hT' hca hkind hdr hdr2 hbk hlk hfine hF
      generalize s[k] = ck at *
      generalize (wireBytes (strBytes ck.name)).length = ln at *
      go_wp2_with (first
        | (at_builtin; go_loud (refine wpList_append_sl colK elemCol rfl _ _ 22 rfl Tryz.underlying22 rfl (HS6.out.below (bel_alloc (Below.refl _ _) _)).own rfl (CN.out w6) flatF flatF (by simp only [maxLen, List.length_singleton]; omega) (by simp only [List.length_singleton]; omega) (by simp; omega) ?_; rintro v8 w8 ⟨ho8, hg8, hat8⟩; obtain ⟨A8, c8, rfl, _, _⟩ := ho8.sl.form; rw [HLA.out] at ho8; have HA8 := Lib.hid (And.intro ho8 hg8); have hc8 := cell_grown hg8 (fun e => by have := (HS6.out.own.lt _ e).1; omega) (cell_al c6 _); have hf8 := grown_froz hg8 (fun e => by have := (HS6.out.own.lt _ e).1; omega) (by simp; omega) (froz_al (by omega) HS6.out.fz _)))
        | (go_at_call 201; go_loud (refine RB.out.mono ?_; rintro e w2 ⟨⟨vo, rfl, ho2⟩, hr2, hg2⟩; have hz2 := hg2.size; have hcs2 := str_of_sl ho2.sl; rw [hnm] at hcs2; have HS2 := Lib.hid (HS.out.grown hg2 (by omega) (by omega)); have HO2 := Lib.hid (HO.out.tr (Only.of_grown (M := fun k => k = R ∨ k = SP) hg2 (.inl rfl))); have HR2 := Lib.hid hr2; clear hr2 ho2 hg2))
        | (go_at_call 117; go_loud (refine (TK.out _ ((HS2.out.below (bel_alloc (Below.refl _ _) _)).sn)).mono ?_; rintro e w3 ⟨rfl, hm3, hg3⟩; have q0 := (gcell hg3 w2.heap.size 0 (by simp) (by omega)).trans (cell_new_at w2 _ _ 0 _ _ rfl rfl); have q1 := (gcell hg3 w2.heap.size 1 (by simp) (by omega)).trans (cell_new_at w2 _ _ 1 _ _ rfl rfl); have hz3 := hg3.size; rw [World.size_alloc] at hz3; have hfR : ∀ k, some mb = some k → k ≠ R ∧ ¬ F k := (fun k hk => by injection hk with hk; subst hk; exact ⟨by omega, fun h => by have := (HF.out mb h).1; have := hbW.size; omega⟩); have HS3 := Lib.hid ((HS2.out.below (bel_alloc (Below.refl _ _) _)).seen hm3 hg3); have HR3 := Lib.hid ((HR2.out.below (bel_alloc (Below.refl _ _) _)).grown hg3 hfR); have HO3 := Lib.hid ((HO2.out.tr (Only.alloc _ _ _)).bel (bel_of_grown1 hg3 hmW (by simp; omega)) (Nat.le_refl _)); have hf3 : w3.frozen? ⟨w2.heap.size, 1, none⟩ = false := grown_froz hg3 (by simp; omega) (by simp) (froz_new_at _ _ _ _ _ rfl)))
        | (go_at_call 131; go_loud (refine (MU.out _ _ _ ‹Hid (Rd _ R F _ _)›.out).mono ?_; rintro e w4 ⟨rfl, rfl⟩))
        | (go_at_call 132; go_loud (refine (BY.out _ HR3.out).mono ?_; rintro e w5 ⟨rfl, hr5, hg5⟩; have hz5 := hg5.size; have t0 := cell_grown hg5 (by simp; omega) q0; have t1 := cell_grown hg5 (by simp; omega) q1; have hf5 := grown_froz hg5 (by simp; omega) (by omega) hf3; have HS5 := Lib.hid ((HS3.out.grown hg5 (by omega) (by omega)).set (b := w2.heap.size) (o := 1) (.int .i64 ck.kind) (by omega) (fun k hk => by have := (HS2.out.own.lt k hk).2; omega)); have HR5 := Lib.hid ((RdSet hr5 (b := w2.heap.size) (o := 1) (.int .i64 ck.kind) (by omega) (fun h => by have := (HF.out _ h).1; have := hbW.size; omega))); have HO5 := Lib.hid ((HO3.out.tr (Only.of_grown (M := fun k => k = R ∨ k = SP) hg5 (.inl rfl))).bel ((Below.refl W.heap.size w5).setCell (show W.heap.size ≤ (⟨w2.heap.size, 1, none⟩ : Addr).block by show W.heap.size ≤ w2.heap.size; omega) (.int .i64 ck.kind)) (Nat.le_refl _)); have s0 : (w5.setCell ⟨w2.heap.size, 1, none⟩ (.int .i64 ck.kind)).cell? ⟨w2.heap.size, 0, none⟩ = some (.string ck.name) := cell_set_off t0 (by omega); have s1 : (w5.setCell ⟨w2.heap.size, 1, none⟩ (.int .i64 ck.kind)).cell? ⟨w2.heap.size, 1, none⟩ = some (.int .i64 ck.kind) := cell_set_on t1; clear q0 q1 hf3))
        | (go_at_call 118; go_loud (refine (KK.out _ (hGG.out _ HO5.out)).mono ?_; rintro e w6 ⟨rfl, hb6⟩; have u0 := cell_by hb6 s0; have u1 := cell_by hb6 s1; have hz6 : w5.heap.size ≤ w6.heap.size := (by have := hb6.size; simpa using this); have HS6 := Lib.hid (HS5.out.below hb6); have HR6 := Lib.hid (HR5.out.below hb6); have HO6 := Lib.hid (HO5.out.bel hb6 HO5.out.size); have c6 := HS6.out.c)))
      have hmb8 : mb < w8.heap.size := by have := hg8.size; simp at this; omega
      have HS7 := HS6.out.below (bel_alloc (Below.refl _ _) (.cells #[.string ck.name, .int .i64 ck.kind] 87))
      have HR7 := HR6.out.below (bel_alloc (Below.refl _ _) (.cells #[.string ck.name, .int .i64 ck.kind] 87))
      have HO7 := HO6.out.tr (Only.alloc (fun k => k = R ∨ k = SP) _ (.cells #[.string ck.name, .int .i64 ck.kind] 87))
      have hnb : ∀ g, (Value.slice Av k cv).ownBlock = some g → mb + 1 ≤ g := fun g hg => (HS6.out.own.lt g hg).1
      have hR8 := HR7.grown HA8.out.2 fun g hg => ⟨by have := hnb g hg; omega, fun h => by have := hnb g hg; have := (HF.out _ h).1; have := hbW.size; omega⟩
      have hb8 : Below W.heap.size (w6.alloc (.cells #[.string ck.name, .int .i64 ck.kind] 87)) w8 := ⟨HA8.out.2.os, HA8.out.2.tape, HA8.out.2.output, HA8.out.2.size, fun g hg => HA8.out.2.block g (by simp; omega) fun e => by have := hnb g e.symm; omega⟩
      have HF8 := Lib.hid (And.intro (RdSet hR8 (b := SP) (o := 0) (.slice A8 (k + 1) c8) (by omega) (fun h => (HF.out _ h).2 rfl)) ((HO7.bel hb8 (Nat.le_refl _)).tr (Only.set (M := fun k => k = R ∨ k = SP) (p := ⟨SP, 0, none⟩) (.slice A8 (k + 1) c8) (.inr rfl))))
      clear HR7 HO7 hR8 hb8 hnb
      go_roundw
      case rel =>
        refine ⟨k + 1, ck.name :: l, .slice A8 (k + 1) c8, by omega, by go_num, by simp; omega, HT'.out, ?_, ?_, ?_⟩
        · show Sch _ _ _ _ _ _
          rw [HCA.out]
          exact HS7.grow HA8.out.2 HA8.out.1
        · exact HF8.out.2
        · show Rd _ _ _ _ _
          rw [HCN.out]
          exact HF8.out.1
      case measure => simp [intOf]; omega
    · have hk' : k = s.length := by omega
      have HK := Lib.hid hk'
      clear hk'
      go_wp2
      go_end0
      refine ⟨rfl, ?_, HO.out, v, HS.out.c, ?_⟩
      · have := HR.out
        rw [HK.out, colAt_all] at this
        exact this
      · have := HS.out.own.sl
        rw [HK.out, List.take_length] at this
        exact this.wid fun k hk _ => by rcases hk with hk | hk; exact hk.elim; omega
/-- What was made since may be written. -/
theorem Only.below' {M : Nat → Prop} {w w1 w2 : World} (h : Only M w1 w2) (hb : Below w.heap.size w w1) (hM : ∀ k, M k → w.heap.size ≤ k) : Below w.heap.size w w2 :=
  ⟨h.os.trans hb.os, h.tape.trans hb.tape, h.output.trans hb.output, Nat.le_trans hb.size h.size, fun k hk => (h.block k (Nat.lt_of_lt_of_le hk hb.size) fun hm => by have := hM k hm; omega).trans (hb.block k hk)⟩
set_option maxRecDepth 100000 in
set_option maxHeartbeats 2000000 in
theorem schemaRead_calls (s : List Col) (h0 : schemaCheck s = 0) (v : Value) (w : World) (F : Nat → Prop) (hG : Glob w) (hv : SL byteK w F v (schemaBytes s)) :
    Calls Tryz.prog 164 #[v] w fun e w' => (∃ vs, e = .returned (.tuple #[vs, .int .i64 ((schemaBytes s).length : Int), .int .i64 0]) ∧ SL colK w' (fun k => w.heap.size ≤ k) vs s) ∧ Below w.heap.size w w' := by
  have hmf : ∀ (fn : Fn) (first cap : Array Value) (w : World), (Instr.makeFunc fn first cap).run Tryz.prog w = .ok (.func fn first cap) w := fun _ _ _ _ => rfl
  obtain ⟨c0, f0⟩ := cell_new_l w (.slice none 0 0) 22
  have hb1 : Below w.heap.size w (w.alloc (.cells #[.slice none 0 0] 22)) := bel_alloc (Below.refl _ _) _
  have RN := Lib.hid (run_calls 200 #[.pointer (some ⟨w.heap.size, 0, none⟩)] (schemaBytes s) v (w.alloc (.cells #[.slice none 0 0] 22)) (fun k => F k ∧ k < w.heap.size) (fun k => k = w.heap.size) _ (fun args W => by kernel_rfl) (hv.since hb1) (fun k hk => by simp; omega) (fun k h => by omega) (schemaRead1_calls s h0 w.heap.size _ w hG hb1 (Nat.le_refl _) c0 f0)
    (fun W1 W2 ⟨vs, h1, h2⟩ hs hk hz => ⟨vs, kept_cell hk (.inl (by simp)) h1, (h2.keep (hk.wid fun k h => .inr h) hz)⟩))
  obtain ⟨A, c, rfl, _, _⟩ := hv.form
  clear c0 f0 hv
  go_enter Tryz.func164, Tryz.ntmps164
  go_wp2_with (go_at_call 129; refine RN.out.mono ?_; rintro e w2 ⟨rfl, ho2, vs, hc2, hs2⟩; obtain ⟨As, cs, rfl, _, _⟩ := hs2.form)
  go_ret3
  refine ⟨⟨_, rfl, hs2.wid fun k hk _ => by simp at hk; omega⟩, ?_⟩
  exact (ho2.below' hb1 fun k hk => by omega)
end Go.Proofs.YtlhdndnohmikeaaGreatDoor

set_option linter.unusedVariables false
set_option linter.unusedSimpArgs false
namespace Go.Proofs.YtlhdndnohmikeaaGreatDoor
open Go.RowKit

theorem bytesEqual_calls (a b : List UInt8) (va vb : Value) (w : World) (F G : Nat → Prop) (ha : SL byteK w F va a) (hb : SL byteK w G vb b) :
    Calls Tryz.prog 198 #[va, vb] w fun e w' => e = .returned (.bool (a == b)) ∧ w = w' := by
  have h1 := str_of_sl ha
  have h2 := str_of_sl hb
  obtain ⟨A, c, rfl, _, _⟩ := ha.form
  obtain ⟨B, d, rfl, _, _⟩ := hb.form
  clear ha hb
  go_enter Tryz.func198, Tryz.ntmps198
  go_wp2
  go_ret
  exact ⟨rfl, rfl⟩
set_option maxRecDepth 100000 in
theorem hasPrefix_yes (p rest : List UInt8) (v vp : Value) (w : World) (F G : Nat → Prop) (hv : SL byteK w F v (p ++ rest)) (hp : SL byteK w G vp p) :
    Calls Tryz.prog 162 #[v, vp] w fun e w' => e = .returned (.bool true) ∧ w = w' := by
  have hl := hv.len_le
  unfold maxLen at hl
  obtain ⟨A, c, rfl, hc, hc2⟩ := hv.form
  have hle : p.length ≤ (p ++ rest).length := by rw [List.length_append]; omega
  have hct := hv.cut (l := 0) (h := p.length) (m := c) (by omega) hle (by omega) (Nat.le_refl _)
  rw [List.drop_zero, Nat.sub_zero, Nat.sub_zero, List.take_append_of_le_length (Nat.le_refl _), List.take_length] at hct
  have EQ := Lib.hid (bytesEqual_calls p p _ _ w F G hct hp)
  rw [show (p == p) = true from by simp] at EQ
  obtain ⟨B, d, rfl, _, _⟩ := hp.form
  have hsl := fun W => el_cut_h elemByte Tryz.underlying36 A (p ++ rest).length c p.length (by omega) W
  have d1 : decide ((p.length : Int) ≤ ((p ++ rest).length : Nat)) = true := decide_eq_true (by omega)
  clear hct hv hp
  generalize (p ++ rest).length = n at *
  go_enter Tryz.func162, Tryz.ntmps162
  go_wp2_with (go_at_call 198; go_loud (refine EQ.out.mono ?_; rintro e w1 ⟨rfl, rfl⟩))
  go_ret
  exact ⟨rfl, rfl⟩
/-- A schema's print. -/
def printOf (s : List Col) : Int := crcSum (schemaBytes s)
theorem schemaPrint_calls (s : List Col) (v : Value) (w : World) (F : Nat → Prop) (hG : Glob w) (hs : SL colK w F v s) (h0 : schemaCheck s = 0) :
    Calls Tryz.prog 126 #[v] w fun e w' => e = .returned (.tuple #[.int .u32 (printOf s), .int .i64 0]) ∧ Below w.heap.size w w' := by
  have SW := Lib.hid (schemaWrite_calls s v w F hG hs)
  simp only [h0, if_true] at SW
  have HP : Hid (printOf s = crcSum (schemaBytes s)) := rfl
  obtain ⟨A, c, rfl, _, _⟩ := hs.form
  have SM := Lib.hid (fun W A c F (h : SL byteK W F (.slice A (schemaBytes s).length c) (schemaBytes s)) => crcSum_calls _ _ W _ h)
  generalize schemaBytes s = sb at *
  clear hs h0
  go_enter Tryz.func126, Tryz.ntmps126
  go_wp2_with (first
    | (go_at_call 67; refine SW.out.mono ?_; rintro e w1 ⟨⟨v1, rfl, ho1⟩, hb1⟩; obtain ⟨A1, c1, rfl, _, _⟩ := ho1.sl.form)
    | (go_at_call 114; refine (SM.out _ _ _ _ ho1.sl).mono ?_; rintro e w2 ⟨rfl, hb2⟩))
  exact bodyPost_ret (results_tmp2 rfl _ _ _) rfl ⟨by rw [HP.out]; rfl, bel_trans hb1 hb2⟩
set_option maxRecDepth 100000 in
set_option maxHeartbeats 2000000 in
theorem headRead_calls (s : List Col) (rest : List UInt8) (v : Value) (w : World) (F : Nat → Prop) (hG : Glob w) (h0 : schemaCheck s = 0) (hv : SL byteK w F v (headBytes s ++ rest)) :
    Calls Tryz.prog 125 #[v] w fun e w' => (∃ vs, e = .returned (.tuple #[vs, .int .i64 ((headBytes s).length : Int), .int .i64 0]) ∧ SL colK w' (fun k => w.heap.size ≤ k) vs s) ∧ Below w.heap.size w w' := by
  have hl := hv.len_le
  unfold maxLen at hl
  have hsl354 := schemaBytes_len h0
  obtain ⟨A, c, rfl, hc, hc2⟩ := hv.form
  have hhl : (headBytes s).length = 4 + (frameBytes 0 (schemaBytes s)).length := by simp [headBytes, magicL]; omega
  have hle : 4 ≤ (headBytes s ++ rest).length := by rw [List.length_append, hhl]; omega
  have hct := hv.cut (l := 4) (h := (headBytes s ++ rest).length) (m := c) hle (Nat.le_refl _) hc (Nat.le_refl _)
  rw [List.take_of_length_le (by simp), show (headBytes s ++ rest).drop 4 = frameBytes 0 (schemaBytes s) ++ rest from rfl] at hct
  have hct : SL byteK w F (.slice (cutA A 4 c 1) ((headBytes s ++ rest).length - 4) (c - 4)) (frameBytes 0 (schemaBytes s) ++ rest) := hct
  have hva : headBytes s ++ rest = magicL ++ (frameBytes 0 (schemaBytes s) ++ rest) := by simp [headBytes]
  have HPx := Lib.hid (fun W vp G (hb : Below w.heap.size w W) (h : SL byteK W G vp magicL) => hasPrefix_yes magicL (frameBytes 0 (schemaBytes s) ++ rest) (.slice A (headBytes s ++ rest).length c) vp W F G (by rw [← hva]; exact hv.below hb) h)
  have FN := Lib.hid (fun W (hb : Below w.heap.size w W) => frameNext_calls 0 (schemaBytes s) rest _ W F (by omega) (by omega) (by omega) (hct.below hb))
  have SR := Lib.hid (fun v1 W F (hb : Below w.heap.size w W) (h : SL byteK W F v1 (schemaBytes s)) => schemaRead_calls s h0 v1 W F (hG.below hb) h)
  have hcv := fun W => Lib.run_convert_bytes_const (P := Tryz.prog) W 36 5 #[.int .u8 68, .int .u8 75, .int .u8 76, .int .u8 49] 4 4 Tryz.underlying36 Tryz.underlying5
  have hsl : ∀ W, (Instr.slice 36 (.slice A (headBytes s ++ rest).length c) (some (.int .i64 4)) none none).run Tryz.prog W = .ok (.slice (cutA A 4 c 1) ((headBytes s ++ rest).length - 4) (c - 4)) W := fun W => el_cut_l elemByte Tryz.underlying36 A (headBytes s ++ rest).length c 4 hle W
  generalize cutA A 4 c 1 = A4 at hsl FN
  have HHL := Lib.hid hhl
  have hfl := frameBytes_len 0 (schemaBytes s)
  rw [hhl]
  clear hct hv hva hhl
  generalize (headBytes s ++ rest).length = n at *
  generalize (frameBytes 0 (schemaBytes s)).length = fl at *
  generalize (schemaBytes s).length = sl at *
  go_enter Tryz.func125, Tryz.ntmps125
  go_wp2_with (first
    | (go_at_call 162; go_loud (refine (HPx.out _ _ _ (bel_alloc (Below.refl _ _) _) (magic_sl w _)).mono ?_; rintro e w1 ⟨rfl, rfl⟩))
    | (go_at_call 163; go_loud (refine (FN.out _ (bel_alloc (Below.refl _ _) _)).mono ?_; rintro e w2 ⟨⟨v2, rfl, ho2⟩, hb2⟩; have hbw2 := bel_trans (bel_alloc (Below.refl w.heap.size w) _) hb2))
    | (go_at_call 164; go_loud (refine (SR.out _ _ _ hbw2 ho2.sl).mono ?_; rintro e w3 ⟨⟨v3, rfl, hs3⟩, hb3⟩)))
  go_ret3
  exact ⟨⟨_, rfl, hs3.wid fun k h _ => by have := hbw2.size; omega⟩, bel_trans hbw2 hb3⟩
end Go.Proofs.YtlhdndnohmikeaaGreatDoor

set_option linter.unusedVariables false
set_option linter.unusedSimpArgs false
namespace Go.Proofs.YtlhdndnohmikeaaGreatDoor
open Go.RowKit

theorem cell_set_offb {w : World} {b b' o o' : Nat} {u v : Value} (h : w.cell? ⟨b', o', none⟩ = some v) (hne : b ≠ b') : (w.setCell ⟨b, o, none⟩ u).cell? ⟨b', o', none⟩ = some v := (World.cell?_setCell_other _ _ _ _ (by simp [hne])).trans h
set_option maxRecDepth 100000 in
set_option maxHeartbeats 2000000 in
theorem read0_calls (s : List Col) (v : Value) (w : World) (F : Nat → Prop) (hG : Glob w) (h0 : schemaCheck s = 0) (hv : SL byteK w F v (headBytes s)) :
    Calls Tryz.prog 82 #[v] w fun e w' => (∃ vs vm, e = .returned (.tuple #[.agg #[vs, .slice none 0 0], vm, .int .i64 ((headBytes s).length : Int), .int .i64 0]) ∧ SL colK w' (fun k => w.heap.size ≤ k) vs s) ∧ Below w.heap.size w w' := by
  have hl := hv.len_le
  unfold maxLen at hl
  obtain ⟨A, c, rfl, hc, hc2⟩ := hv.form
  have HR := Lib.hid (fun W (hb : Below w.heap.size w W) => headRead_calls s [] (.slice A (headBytes s).length c) W F (hG.below hb) h0 (by rw [List.append_nil]; exact hv.below hb))
  have PR := Lib.hid (fun W A c F (hb : Below w.heap.size w W) (h : SL colK W F (.slice A s.length c) s) => schemaPrint_calls s _ W F (hG.below hb) h h0)
  have h8 := schemaCheck_len h0
  have e00 : ((w.alloc (.cells #[.slice none 0 0, .slice none 0 0] 46)).alloc (.cells #[.slice none 0 0, .int .i64 0, .slice none 0 0, .int .i64 0] 125)).cell? ⟨w.heap.size, 0, none⟩ = some (.slice none 0 0) := cell_al (cell_new_at w _ _ _ _ _ rfl rfl) _
  have e01 : ((w.alloc (.cells #[.slice none 0 0, .slice none 0 0] 46)).alloc (.cells #[.slice none 0 0, .int .i64 0, .slice none 0 0, .int .i64 0] 125)).cell? ⟨w.heap.size, 1, none⟩ = some (.slice none 0 0) := cell_al (cell_new_at w _ _ _ _ _ rfl rfl) _
  have e10 : ((w.alloc (.cells #[.slice none 0 0, .slice none 0 0] 46)).alloc (.cells #[.slice none 0 0, .int .i64 0, .slice none 0 0, .int .i64 0] 125)).cell? ⟨w.heap.size + 1, 0, none⟩ = some (.slice none 0 0) := cell_new_at _ _ _ _ _ _ (by simp) rfl
  have z00 : ((w.alloc (.cells #[.slice none 0 0, .slice none 0 0] 46)).alloc (.cells #[.slice none 0 0, .int .i64 0, .slice none 0 0, .int .i64 0] 125)).frozen? ⟨w.heap.size, 0, none⟩ = false := froz_al (by simp) (froz_new_at w _ _ _ _ rfl) _
  have z10 : ((w.alloc (.cells #[.slice none 0 0, .slice none 0 0] 46)).alloc (.cells #[.slice none 0 0, .int .i64 0, .slice none 0 0, .int .i64 0] 125)).frozen? ⟨w.heap.size + 1, 0, none⟩ = false := froz_new_at _ _ _ _ _ (by simp)
  have EE := Lib.hid (And.intro e00 (And.intro e01 (And.intro e10 (And.intro z00 z10))))
  clear hv h0 e00 e01 e10 z00 z10
  generalize (headBytes s).length = n at *
  generalize printOf s = pr at *
  go_enter Tryz.func82, Tryz.ntmps82
  go_wp2_with (first
    | (go_at_call 125; go_loud (refine (HR.out _ (bel_alloc (bel_alloc (Below.refl _ _) _) _)).mono ?_; rintro e w1 ⟨⟨v1, rfl, hs1⟩, hb1⟩; obtain ⟨A1, c1, rfl, _, _⟩ := hs1.form; obtain ⟨e00, e01, e10, z00, z10⟩ := EE.out; have p00 := cell_by hb1 e00; have p01 := cell_by hb1 e01; have p10 := cell_by hb1 e10; have q00 := froz_by hb1 (by simp; omega) z00; have q10 := froz_by hb1 (by simp) z10; clear e00 e01 e10 z00 z10; have hbw1 : Below w.heap.size w w1 := bel_trans (bel_alloc (bel_alloc (Below.refl _ _) _) _) hb1; have hs2 := (hs1.set (p := ⟨w.heap.size + 1, 0, none⟩) (.slice A1 s.length c1) (by simp)).set (p := ⟨w.heap.size, 0, none⟩) (.slice A1 s.length c1) (by simp; omega); have hbw2 := bel_set (bel_set hbw1 (p := ⟨w.heap.size + 1, 0, none⟩) (by simp) (.slice A1 s.length c1)) (p := ⟨w.heap.size, 0, none⟩) (by simp) (.slice A1 s.length c1); have p0 := cell_set_on (u := .slice A1 s.length c1) (cell_set_offb (u := .slice A1 s.length c1) p00 (b := w.heap.size + 1) (o := 0) (by omega)); have p1 := cell_set_off (u := .slice A1 s.length c1) (cell_set_offb (u := .slice A1 s.length c1) p01 (b := w.heap.size + 1) (o := 0) (by omega)) (o := 0) (by omega)))
    | (go_at_call 126; go_loud (refine (PR.out _ _ _ _ hbw2 hs2).mono ?_; rintro e w2 ⟨rfl, hb2⟩; have u0 := cell_by hb2 p0; have u1 := cell_by hb2 p1; have hs3 := hs2.below hb2; have hbw3 := bel_trans hbw2 hb2; have zz : ∀ o, w2.frozen? ⟨w.heap.size, o, none⟩ = false := (fun o => froz_by hb2 (by have := World.block_lt_of_cell? w1 _ p00; simpa using this) ((World.frozen?_setCell ..).trans ((World.frozen?_setCell ..).trans (froz_by hb1 (by simp; omega) (froz_al (by simp) (froz_new_at w _ _ o _ rfl) _))))); clear p0 p1 p00 p01 p10 q00 q10)))
  go_loopw [4] (fun i wr => i = .int .i64 n ∧ Below w.heap.size w wr ∧ wr.cell? ⟨w.heap.size, 0, none⟩ = some (.slice A1 s.length c1) ∧ wr.cell? ⟨w.heap.size, 1, none⟩ = some (.slice none 0 0) ∧ SL colK wr (fun k => w.heap.size + 2 ≤ k) (.slice A1 s.length c1) s ∧ wr.frozen? ⟨w.heap.size, 0, none⟩ = false ∧ wr.frozen? ⟨w.heap.size, 1, none⟩ = false) (fun _ _ => 0)
  case atStart =>
    have hbl := bel_drew (bel_alloc (bel_alloc (Below.refl w2.heap.size w2) (.cells #[.int .i64 0, .int .i64 n, .int .u32 pr] 77)) (.cells (#[.int .i64 0, .int .i64 n, .int .u32 pr] ++ Builtin.zeroCells #[.int .i64 0, .int .i64 0, .int .u32 0] ((Question.appendCap 1 0 77).cut (w2.tape w2.drawn (Question.appendCap 1 0 77)) - 1)) 77))
    have hlt : w.heap.size < w2.heap.size := World.block_lt_of_cell? w2 _ u0
    exact ⟨rfl, bel_trans hbw3 hbl, cell_by hbl u0, cell_by hbl u1, (hs3.below hbl).wid fun k hk _ => by simpa using hk, froz_by hbl hlt (zz _), froz_by hbl hlt (zz _)⟩
  case round =>
    obtain ⟨rfl, hbr, r0, r1, hsr, rz0, rz1⟩ := hrel
    have hlt : w.heap.size < wr.heap.size := World.block_lt_of_cell? wr _ r0
    go_wp2
    refine bodyPost_ret (v := .tuple #[.agg #[.slice A1 s.length c1, .slice none 0 0], _, .int .i64 n, .int .i64 0]) (by simp [results, Tryz.results82, go_sem, r0, r1]; rfl) rfl ?_
    refine ⟨⟨_, _, rfl, ?_⟩, bel_set (bel_set hbr (by simp) _) (by simp) _⟩
    exact ((hsr.set _ (by simp)).set _ (by simp)).wid fun k hk _ => by omega
theorem decode0_calls (s : List Col) (v : Value) (w : World) (F : Nat → Prop) (hG : Glob w) (h0 : schemaCheck s = 0) (hv : SL byteK w F v (headBytes s)) :
    Calls Tryz.prog 35 #[v] w fun e w' => (∃ vs, e = .returned (.tuple #[.agg #[vs, .slice none 0 0], .int .i64 ((headBytes s).length : Int), .int .i64 0]) ∧ SL colK w' (fun k => w.heap.size ≤ k) vs s) ∧ Below w.heap.size w w' := by
  obtain ⟨A, c, rfl, _, _⟩ := hv.form
  have RD := Lib.hid (fun W (hb : Below w.heap.size w W) => read0_calls s (.slice A (headBytes s).length c) W F (hG.below hb) h0 (hv.below hb))
  generalize (headBytes s).length = n at *
  clear hv h0
  go_enter Tryz.func35, Tryz.ntmps35
  go_wp2_with (go_at_call 82; go_loud (refine (RD.out _ (bel_alloc (Below.refl _ _) _)).mono ?_; rintro e w1 ⟨⟨vs, vm, rfl, hs1⟩, hb1⟩; obtain ⟨A1, c1, rfl, _, _⟩ := hs1.form; have e0 := cell_by hb1 (cell_new_at w #[.slice none 0 0, .slice none 0 0] 46 0 _ (.slice none 0 0) rfl rfl); have e1 := cell_by hb1 (cell_new_at w #[.slice none 0 0, .slice none 0 0] 46 1 _ (.slice none 0 0) rfl rfl); have z0 := froz_by hb1 (by simp) (froz_new_at w #[.slice none 0 0, .slice none 0 0] 46 0 _ rfl); have z1 := froz_by hb1 (by simp) (froz_new_at w #[.slice none 0 0, .slice none 0 0] 46 1 _ rfl); have hz1 := hb1.size; rw [World.size_alloc] at hz1; have y0 := froz_al (by omega) z0 (.cells #[.slice A1 s.length c1, .slice none 0 0] 46); have y1 := froz_al (by omega) z1 (.cells #[.slice A1 s.length c1, .slice none 0 0] 46); have x0 := cell_al e0 (.cells #[.slice A1 s.length c1, .slice none 0 0] 46); have x2 := cell_al e1 (.cells #[.slice A1 s.length c1, .slice none 0 0] 46); have x1 := cell_set_off (u := .slice A1 s.length c1) (o := 0) (cell_al e1 (.cells #[.slice A1 s.length c1, .slice none 0 0] 46)) (by omega)))
  have r0 := cell_set_off (o := 1) (u := .slice none 0 0) (cell_set_on (u := .slice A1 s.length c1) x0) (by omega)
  have r1 := cell_set_on (u := .slice none 0 0) x1
  refine bodyPost_ret (fn := Tryz.f35) (v := .tuple #[.agg #[.slice A1 s.length c1, .slice none 0 0], .int .i64 n, .int .i64 0]) (by simp [results, Tryz.results35, go_sem, r0, r1]) rfl ?_
  have hbw : Below w.heap.size w w1 := bel_trans (bel_alloc (Below.refl _ _) _) hb1
  refine ⟨⟨_, rfl, ?_⟩, bel_set (bel_set (bel_alloc hbw _) (by simp) _) (by simp) _⟩
  exact (((hs1.below (bel_alloc (Below.refl _ _) _)).set _ (by simp)).set _ (by simp)).wid fun k hk _ => by simp at hk; omega
end Go.Proofs.YtlhdndnohmikeaaGreatDoor

set_option linter.unusedVariables false
set_option linter.unusedSimpArgs false
namespace Go.Proofs.YtlhdndnohmikeaaGreatDoor
open Go.RowKit

def idS : ByteArray := ⟨#[105, 100]⟩
def colId : Col := ⟨idS, 0⟩
def frame7 : List UInt8 := [0, 5, 1, 2, 105, 100, 0]
theorem check_id : schemaCheck [colId] = 0 := by kernel_rfl
theorem head_id : headBytes [colId] = magicL ++ crcSeal frame7 := by kernel_rfl
theorem encoded_nil {s : List Col} {out : List UInt8} {n ec : Int} (h : Encoded s [] out n ec) (h0 : schemaCheck s = 0) : out = headBytes s ∧ n = 0 ∧ ec = 0 := by
  rcases h with h | h | h
  · exact absurd h0 h.1
  · obtain ⟨_, h1, h2, h3⟩ := h
    exact ⟨by rw [h3]; simp [traceBytes, bodyBytes], by simpa using h2, h1⟩
  · obtain ⟨_, _, _, k, _, seq, view, _, _, h, _⟩ := h
    simp at h
theorem seven_sl (w : World) (fr : Nat × Nat) : SL byteK (w.alloc (.cells #[.int .u8 0, .int .u8 5, .int .u8 1, .int .u8 2, .int .u8 105, .int .u8 100, .int .u8 0] 5 fr)) (fun _ => True) (.slice (some ⟨w.heap.size, 0, none⟩) 7 7) frame7 := by
  refine ⟨_, 7, [.int .u8 0, .int .u8 5, .int .u8 1, .int .u8 2, .int .u8 105, .int .u8 100, .int .u8 0], rfl, by simp [frame7], by unfold maxLen; omega, fun _ => ⟨_, rfl, trivial, by simp, fun j u hu => ?_⟩, .cons (c := [.int .u8 0]) ⟨rfl, trivial⟩ (.cons (c := [.int .u8 5]) ⟨rfl, trivial⟩ (.cons (c := [.int .u8 1]) ⟨rfl, trivial⟩ (.cons (c := [.int .u8 2]) ⟨rfl, trivial⟩ (.cons (c := [.int .u8 105]) ⟨rfl, trivial⟩ (.cons (c := [.int .u8 100]) ⟨rfl, trivial⟩ (.cons (c := [.int .u8 0]) ⟨rfl, trivial⟩ .nil))))))⟩
  rw [show ((⟨w.heap.size, 0, none⟩ : Addr).add j) = ⟨w.heap.size, j, none⟩ by unfold Addr.add; split <;> simp_all]
  rw [World.cell?_alloc_mark]
  simpa using hu
theorem id_sl (w : World) : SL colK (w.alloc (.cells #[.string idS, .int .i64 0] 87)) (fun k => k = w.heap.size) (.slice (some ⟨w.heap.size, 0, none⟩) 1 1) [colId] := colK_new w colId (by decide) (by decide)
set_option maxRecDepth 100000 in
set_option maxHeartbeats 4000000 in
theorem alive13_calls (w : World) (hG : Glob w) :
    Calls Tryz.prog 26 #[] w fun e w' => e = .returned (.bool true) ∧ Below w.heap.size w w' := by
  have hs0 := id_sl w
  have hb0 : Below w.heap.size w (w.alloc (.cells #[.string idS, .int .i64 0] 87)) := bel_alloc (Below.refl _ _) _
  have EN := Lib.hid (encode_calls [colId] [] _ (.slice none 0 0) _ _ _ (hG.below hb0) hs0 (SL.nil entryK _ (fun _ => True)) (by simp))
  have hcv := fun W => Lib.run_convert_bytes_const (P := Tryz.prog) W 36 5 #[.int .u8 68, .int .u8 75, .int .u8 76, .int .u8 49] 4 4 Tryz.underlying36 Tryz.underlying5
  have hcv7 : ∀ (W : World) (n : Nat), W.heap.size = n → (convert 36 36 (.slice (some ⟨n, 0, none⟩) 7 7)).run Tryz.prog (W.alloc (.cells #[.int .u8 0, .int .u8 5, .int .u8 1, .int .u8 2, .int .u8 105, .int .u8 100, .int .u8 0] 5)) = .ok (.slice (some ⟨n, 0, none⟩) 7 7) (W.alloc (.cells #[.int .u8 0, .int .u8 5, .int .u8 1, .int .u8 2, .int .u8 105, .int .u8 100, .int .u8 0] 5 (7, 8))) := by
    rintro W n rfl
    exact Lib.run_convert_bytes_const (P := Tryz.prog) W 36 5 #[.int .u8 0, .int .u8 5, .int .u8 1, .int .u8 2, .int .u8 105, .int .u8 100, .int .u8 0] 7 7 Tryz.underlying36 Tryz.underlying5
  have hcv7' := fun (w1 : World) => hcv7 (w1.alloc (.cells #[.int .u8 68, .int .u8 75, .int .u8 76, .int .u8 49] 5 (4, 5))) (w1.heap.size + 1) (by simp)
  clear hcv7
  have hsl : (crcSeal frame7).length = 11 := by simp [crcSeal, frame7, crcPut_len]
  have hh : headBytes [colId] = magicL ++ crcSeal frame7 := head_id
  have hhl : (headBytes [colId]).length = 15 := by rw [hh, List.length_append, hsl]; rfl
  have SE := Lib.hid (fun (W : World) n fr (h : W.heap.size = n) => crcSeal_calls frame7 (.slice (some ⟨n, 0, none⟩) 7 7) _ _ (h ▸ seven_sl W fr) (by simp [frame7]))
  have DE := Lib.hid (fun v W F (hb : Below w.heap.size w W) (h : SL byteK W F v (headBytes [colId])) => decode0_calls [colId] v W F (hG.below hb) check_id h)
  rw [hhl] at DE
  have HE := Lib.hid (fun out n ec (h : Encoded [colId] [] out n ec) => encoded_nil h check_id)
  have HH := Lib.hid (And.intro hh hhl)
  have hl0 : 0 < (crcSeal frame7).length := by omega
  have hl1 : (crcSeal frame7).length ≤ 100 := by omega
  have hl4 : magicL.length = 4 := rfl
  have h15 : ((15 : Int) == ((headBytes [colId]).length : Int)) = true := by rw [hhl]; rfl
  clear hh hhl hs0 hsl
  generalize crcSeal frame7 = sl at *
  generalize headBytes [colId] = hbs at *
  go_enter Tryz.func26, Tryz.ntmps26
  go_wp2_with (first
    | (go_at_call 28; go_loud (refine EN.out.mono ?_; rintro e w1 ⟨⟨vo, n, ec, out, rfl, ho1, hen⟩, hb1⟩; obtain ⟨rfl, rfl, rfl⟩ := HE.out _ _ _ hen; obtain ⟨A1, c1, rfl, _, _⟩ := ho1.sl.form; have bw1 := bel_trans hb0 hb1))
    | (go_at_call 63; go_loud (refine (SE.out _ _ _ (by simp)).mono ?_; rintro e w2 ⟨⟨v2, rfl, ho2⟩, hb2⟩; obtain ⟨A2, c2, rfl, _, _⟩ := ho2.sl.form; have bw2 : Below w1.heap.size w1 w2 := bel_trans (bel_alloc (bel_alloc (Below.refl _ _) _) _) hb2; have hm2 := ((magic_sl w1 (4, 5)).al _).below hb2))
    | (at_builtin; go_loud (refine wpList_append_full byteK elemByte rfl _ _ 36 rfl Tryz.underlying36 (H := fun _ => False) (xs := magicL) rfl rfl hm2 rfl ho2.sl (by omega) hl0 flatB flatB (by unfold maxLen; omega) (by omega) ?_; rintro v5 w5 ho5 hb5; rw [← HH.out.1] at ho5; obtain ⟨A5, c5, rfl, _, _⟩ := ho5.sl.form))
    | (go_at_call 35; go_loud (refine (DE.out _ _ _ (bel_trans bw1 (bel_trans bw2 hb5)) ho5.sl).mono ?_; rintro e w6 ⟨⟨vs, rfl, hs6⟩, hb6⟩; obtain ⟨A6, c6, rfl, _, _⟩ := hs6.form; have bw6 := bel_trans (bel_trans bw2 hb5) hb6; have ho7 := str_of_sl ((ho1.sl.below bw6).al (.cells #[.slice A6 1 c6, .slice none 0 0] 46)); have ho8 := str_of_sl ((ho5.sl.below hb6).al (.cells #[.slice A6 1 c6, .slice none 0 0] 46)))))
  go_ret
  exact ⟨rfl, bel_alloc (bel_trans bw1 bw6) _⟩
end Go.Proofs.YtlhdndnohmikeaaGreatDoor
