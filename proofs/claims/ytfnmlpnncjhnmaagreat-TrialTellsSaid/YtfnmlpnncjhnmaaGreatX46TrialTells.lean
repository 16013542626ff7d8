/- variorumbook: Book.Apart where balances and pairs are kept. Printed by mkapart2.py. -/
import Derived.Test.YtfnmlpnncjhnmaaGreatX42TrialTells
import Derived.Test.YtfnmlpnncjhnmaaGreatX43TrialTells
import Derived.Test.YtfnmlpnncjhnmaaGreatX44TrialTells
import Derived.Test.YtfnmlpnncjhnmaaGreatX45TrialTells
set_option linter.unusedVariables false
set_option linter.unusedSimpArgs false
namespace Go.Proofs.YtfnmlpnncjhnmaaGreat
open Go.RowKit Go.Maps Go.Deep

/-- a Book that keeps the lists L of balances and M of pairs -/
structure Both (w : World) (b base : Nat) (s t : Value) (vs us : List Value) (L : List (List (Int × Int))) (p q : Value) (ps qs : List Value) (M : List (List (Int × Int))) : Prop where
  kb : KeptB2 p q w b base s t vs us L
  kp : KeptP2 s t w b base p q ps qs M
  cr : ∀ x, (x = s ∨ x = t ∨ x ∈ vs ∨ x ∈ us) → ∀ y, (y = p ∨ y = q ∨ y ∈ ps ∨ y ∈ qs) → ApartV x y
section
variable {w w' : World} {b base : Nat} {s t p q : Value} {vs us ps qs : List Value} {L M : List (List (Int × Int))}
theorem KeptB2.below (h : KeptB2 p q w b base s t vs us L) (hb : Below w.heap.size w w') : KeptB2 p q w' b base s t vs us L :=
  ⟨blk_below h.cell hb, h.bb, h.os.below hb, h.ot.below hb, h.lv.below hb, h.lu.below hb, h.st, h.sv, h.su, h.tv, h.tu, h.vu⟩
theorem KeptP2.below (h : KeptP2 s t w b base p q ps qs M) (hb : Below w.heap.size w w') : KeptP2 s t w' b base p q ps qs M :=
  ⟨blk_below h.cell hb, h.bb, h.os.below hb, h.ot.below hb, h.lv.below hb, h.lu.below hb, h.st, h.sv, h.su, h.tv, h.tu, h.vu⟩
theorem Both.below (h : Both w b base s t vs us L p q ps qs M) (hb : Below w.heap.size w w') : Both w' b base s t vs us L p q ps qs M := ⟨h.kb.below hb, h.kp.below hb, h.cr⟩
end
/-- a row apart from all of some lists -/
theorem notin_of {y : Value} {vs : List Value} (h : ∀ v ∈ vs, ApartV y v) : ∀ k, y.ownBlock = some k → ¬ InV vs k := fun k hk ⟨v, hv, hvk⟩ => by
  rcases h v hv with h1 | h1
  · rw [h1] at hk; cases hk
  · exact h1 (by rw [hk, hvk])
theorem inv_apart {vs ps : List Value} (h : ∀ x ∈ vs, ∀ y ∈ ps, ApartV x y) : ∀ k, InV vs k → ¬ InV ps k := fun k ⟨x, hx, hxk⟩ => notin_of (h x hx) k hxk
theorem Lots.butI {P : Program} {e : TypeId} {α : Type} {T : Ty P e α} {w w' : World} {base : Nat} {vs : List Value} {L : List (List α)} {F : Nat → Prop} (hfr : Free T) (h : Lots T w base vs L) (hb : But F w w') (hF : ∀ k, InV vs k → ¬ F k) : Lots T w' base vs L :=
  ⟨h.len, fun i v l hv hl => (h.own i v l hv hl).but hfr hb (fun k hk => hF k ⟨v, List.mem_of_getElem? hv, hk⟩), h.apart⟩
theorem Reads.but {w w' : World} {vs : List Value} {L : List (List (Int × Int))} {F : Nat → Prop} (h : Reads w vs L) (hb : But F w w') (hF : ∀ k, InV vs k → ¬ F k) : Reads w' vs L :=
  ⟨h.1, fun i v l hv hl => by
    obtain ⟨a, c, e, hs⟩ := h.2 i v l hv hl
    refine ⟨a, c, e, fun j x hx => ?_⟩
    obtain ⟨ad, ces, ha, _, hlt, hc, hr⟩ := hs j x hx
    have hbl := hb.block _ hlt (hF _ ⟨v, List.mem_of_getElem? hv, by rw [e, ha]; rfl⟩)
    exact ⟨ad, ces, ha, trivial, Nat.lt_of_lt_of_le hlt hb.size, fun u z hu => by rw [← hc u z hu]; exact World.cell?_of_block (w := w) (by rw [add_block, add_block]; exact hbl), bal_Free _ _ _ _ _ _ hr⟩⟩
/-- the Book without the copies -/
structure BothC (w : World) (b base : Nat) (s t : Value) (vs : List Value) (L : List (List (Int × Int))) (p q : Value) (ps : List Value) (M : List (List (Int × Int))) : Prop where
  cell : w.heap[b]? = some (.cells (bookBP p q s t) 48 (0, 0))
  bb : b < base
  os : OwnL tBalV w base s vs
  lv : Lots tBal w base vs L
  sv : ∀ v ∈ vs, ApartV s v
  op : OwnL tPairV w base p ps
  lp : Lots tPair w base ps M
  sp : ∀ v ∈ ps, ApartV p v
  xs : ∀ y ∈ ps, ApartV s y
  xp : ∀ x ∈ vs, ApartV p x
  xv : ∀ x ∈ vs, ∀ y ∈ ps, ApartV x y
section
variable {w w' : World} {b base : Nat} {s t p q : Value} {vs ps : List Value} {L M : List (List (Int × Int))}
theorem BothC.below (h : BothC w b base s t vs L p q ps M) (hb : Below w.heap.size w w') : BothC w' b base s t vs L p q ps M :=
  ⟨blk_below h.cell hb, h.bb, h.os.below hb, h.lv.below hb, h.sv, h.op.below hb, h.lp.below hb, h.sp, h.xs, h.xp, h.xv⟩
theorem BothC.notV (h : BothC w b base s t vs L p q ps M) : ¬ InV vs b := fun ⟨v, hv, hk⟩ => by
  have := (h.lv.lt hv b hk).1
  have := h.bb
  omega
theorem BothC.notP (h : BothC w b base s t vs L p q ps M) : ¬ InV ps b := fun ⟨v, hv, hk⟩ => by
  have := (h.lp.lt hv b hk).1
  have := h.bb
  omega
theorem BothC.putB {C : List (List (Int × Int))} (h : BothC w b base s t vs L p q ps M) (hb : But (InV vs) w w') (hC : Lots tBal w' base vs C) : BothC w' b base s t vs C p q ps M :=
  ⟨(hb.block b (blk_lt h.cell) h.notV).trans h.cell, h.bb, h.os.but balV_Free hb (notin_of h.sv), hC, h.sv, h.op.but pairV_Free hb (notin_of h.xp), h.lp.butI pair_Free hb (fun k hp hv => inv_apart h.xv k hv hp), h.sp, h.xs, h.xp, h.xv⟩
theorem BothC.putP {C : List (List (Int × Int))} (h : BothC w b base s t vs L p q ps M) (hb : But (InV ps) w w') (hC : Lots tPair w' base ps C) : BothC w' b base s t vs L p q ps C :=
  ⟨(hb.block b (blk_lt h.cell) h.notP).trans h.cell, h.bb, h.os.but balV_Free hb (notin_of h.xs), h.lv.butI bal_Free hb (inv_apart h.xv), h.sv, h.op.but pairV_Free hb (notin_of h.sp), hC, h.sp, h.xs, h.xp, h.xv⟩
end
/-- the balances grown -/
structure BothG (w : World) (b base : Nat) (s t : Value) (vs : List Value) (L : List (List (Int × Int))) (vo : Value) (cur : List Value) (C : List (List (Int × Int))) (p q : Value) (ps : List Value) (M : List (List (Int × Int))) : Prop where
  cell : w.heap[b]? = some (.cells (bookBP p q s t) 48 (0, 0))
  os : OwnL tBalV w base s vs
  rv : Reads w vs L
  og : OwnL tBalV w base vo cur
  rg : Reads w cur C
  op : OwnL tPairV w base p ps
  lp : Lots tPair w base ps M
  sp : ∀ v ∈ ps, ApartV p v
  nb : ¬ InV ps b
  fs : ∀ y ∈ ps, ApartV s y
  fo : ∀ y ∈ ps, ApartV vo y
  fv : ∀ k, InV vs k → ¬ InV ps k
  fc : ∀ k, InV cur k → ¬ InV ps k
/-- all of it grown -/
structure BothH (w : World) (b base : Nat) (s t : Value) (vs : List Value) (L : List (List (Int × Int))) (vo : Value) (cur : List Value) (C : List (List (Int × Int))) (p q : Value) (ps : List Value) (M : List (List (Int × Int))) (vp : Value) (cup : List Value) (D : List (List (Int × Int))) : Prop where
  cell : w.heap[b]? = some (.cells (bookBP p q s t) 48 (0, 0))
  os : OwnL tBalV w base s vs
  rv : Reads w vs L
  og : OwnL tBalV w base vo cur
  rg : Reads w cur C
  op : OwnL tPairV w base p ps
  rp : ReadsP w ps M
  oh : OwnL tPairV w base vp cup
  rh : ReadsP w cup D
section
variable {w w' : World} {b base : Nat} {s t p q vo vp : Value} {vs ps cur cup : List Value} {L M C D : List (List (Int × Int))}
theorem BothG.below (h : BothG w b base s t vs L vo cur C p q ps M) (hb : Below w.heap.size w w') : BothG w' b base s t vs L vo cur C p q ps M :=
  ⟨blk_below h.cell hb, h.os.below hb, h.rv.keep hb, h.og.below hb, h.rg.keep hb, h.op.below hb, h.lp.below hb, h.sp, h.nb, h.fs, h.fo, h.fv, h.fc⟩
theorem BothH.below (h : BothH w b base s t vs L vo cur C p q ps M vp cup D) (hb : Below w.heap.size w w') : BothH w' b base s t vs L vo cur C p q ps M vp cup D :=
  ⟨blk_below h.cell hb, h.os.below hb, h.rv.keep hb, h.og.below hb, h.rg.keep hb, h.op.below hb, h.rp.keep hb, h.oh.below hb, h.rh.keep hb⟩
end

set_option maxHeartbeats 16000000 in
set_option maxRecDepth 100000 in
theorem kapart2_any {w : World} {b base : Nat} {s t p q : Value} {vs us ps qs : List Value} {L M0 : List (List (Int × Int))} (h : Both w b base s t vs us L p q ps qs M0) (hn : vs.length ≤ 1000) (hn2 : ps.length ≤ 1000) (hL : ∀ (i : Nat) (l : List (Int × Int)), L[i]? = some l → l.length ≤ 100000) (hM0 : ∀ (i : Nat) (l : List (Int × Int)), M0[i]? = some l → l.length ≤ 100000) (hbs : base ≤ w.heap.size) :
    Calls Tryz.prog 19 #[.pointer (some ⟨b, 0, none⟩)] w fun e w' => e = .returned (.bool true) ∧ But (fun k => b ≤ k) w w' := by
  obtain ⟨sa, sc, rfl, _, _, _⟩ := h.kb.os.slice
  obtain ⟨ta, tc, rfl, _, _, _⟩ := h.kb.ot.slice
  obtain ⟨pa, pc, rfl, _, _, _⟩ := h.kp.os.slice
  obtain ⟨qa, qc, rfl, _, _, _⟩ := h.kp.ot.slice
  have HL := Lib.hid hL
  have HM0 := Lib.hid hM0
  have hbb := Lib.hid h.kb.bb
  have HIV : Hid (∀ k, InV vs k → b ≤ k) := Lib.hid (fun k ⟨v, hv, hk⟩ => by have := (h.kb.lv.lt hv k hk).1; have := h.kb.bb; omega)
  have HIP : Hid (∀ k, InV ps k → b ≤ k) := Lib.hid (fun k ⟨v, hv, hk⟩ => by have := (h.kp.lv.lt hv k hk).1; have := h.kb.bb; omega)
  have HK0 := Lib.hid h
  have HB0 : Hid (But (fun k => b ≤ k) w w) := Lib.hid (But.refl _ _)
  clear h hL hM0
  go_enter Tryz.func19, Tryz.ntmps19
  go_wp2_with fail
  refine (stillTexts_nil b _ w HK0.out.kb.cell rfl).mono ?_
  rintro en w1 ⟨rfl, hb⟩
  have HK1 := Lib.hid (HK0.out.below hb)
  have HB1 := Lib.hid (HB0.out.call hb)
  clear hb
  go_wp2_with fail
  refine (stillInts_nil b _ w1 HK1.out.kb.cell rfl).mono ?_
  rintro en w2 ⟨rfl, hb⟩
  have HK2 := Lib.hid (HK1.out.below hb)
  have HB2 := Lib.hid (HB1.out.call hb)
  clear hb
  go_wp2_with fail
  refine (stillAccounts_nil b _ w2 HK2.out.kb.cell rfl).mono ?_
  rintro en w3 ⟨rfl, hb⟩
  have HK3 := Lib.hid (HK2.out.below hb)
  have HB3 := Lib.hid (HB2.out.call hb)
  clear hb
  go_wp2_with fail
  refine (stillBal_any HK3.out.kb.cell rfl rfl HK3.out.kb.os.sl HK3.out.kb.ot.sl HK3.out.kb.lv.reads HK3.out.kb.lu.reads hn (fun i l h => by have := HL.out i l h; unfold maxLen; omega)).mono ?_
  rintro en w4 ⟨rfl, hb⟩
  have HK4 := Lib.hid (HK3.out.below hb)
  have HB4 := Lib.hid (HB3.out.call hb)
  clear hb
  go_wp2_with fail
  refine (stillLines_nil b _ w4 HK4.out.kb.cell rfl).mono ?_
  rintro en w5 ⟨rfl, hb⟩
  have HK5 := Lib.hid (HK4.out.below hb)
  have HB5 := Lib.hid (HB4.out.call hb)
  clear hb
  go_wp2_with fail
  refine (stillJournals_nil b _ w5 HK5.out.kb.cell rfl).mono ?_
  rintro en w6 ⟨rfl, hb⟩
  have HK6 := Lib.hid (HK5.out.below hb)
  have HB6 := Lib.hid (HB5.out.call hb)
  clear hb
  go_wp2_with fail
  refine (stillChanges_nil b _ w6 HK6.out.kb.cell rfl).mono ?_
  rintro en w7 ⟨rfl, hb⟩
  have HK7 := Lib.hid (HK6.out.below hb)
  have HB7 := Lib.hid (HB6.out.call hb)
  clear hb
  go_wp2_with fail
  refine (stillConflicts_nil b _ w7 HK7.out.kb.cell rfl).mono ?_
  rintro en w8 ⟨rfl, hb⟩
  have HK8 := Lib.hid (HK7.out.below hb)
  have HB8 := Lib.hid (HB7.out.call hb)
  clear hb
  go_wp2_with fail
  refine (stillTrios_nil b _ w8 HK8.out.kb.cell rfl).mono ?_
  rintro en w9 ⟨rfl, hb⟩
  have HK9 := Lib.hid (HK8.out.below hb)
  have HB9 := Lib.hid (HB8.out.call hb)
  clear hb
  go_wp2_with fail
  refine (stillPair_any HK9.out.kp.cell rfl rfl HK9.out.kp.os.sl HK9.out.kp.ot.sl HK9.out.kp.lv.readsP HK9.out.kp.lu.readsP hn2 (fun i l h => by have := HM0.out i l h; unfold maxLen; omega)).mono ?_
  rintro en w10 ⟨rfl, hb⟩
  have HK10 := Lib.hid (HK9.out.below hb)
  have HB10 := Lib.hid (HB9.out.call hb)
  clear hb
  go_wp2_with fail
  have HC10 : Hid (BothC w10 b base (.slice sa vs.length sc) (.slice ta us.length tc) vs L (.slice pa ps.length pc) (.slice qa qs.length qc) ps M0) := Lib.hid ⟨HK10.out.kb.cell, HK10.out.kb.bb, HK10.out.kb.os, HK10.out.kb.lv, HK10.out.kb.sv, HK10.out.kp.os, HK10.out.kp.lv, HK10.out.kp.sv, fun y hy => HK10.out.cr _ (.inl rfl) _ (.inr (.inr (.inl hy))), fun x hx => ApartV.symm (HK10.out.cr _ (.inr (.inr (.inl hx))) _ (.inl rfl)), fun x hx y hy => HK10.out.cr _ (.inr (.inr (.inl hx))) _ (.inr (.inr (.inl hy)))⟩
  refine (putJournals_nil b _ w10 HC10.out.cell rfl).mono ?_
  rintro en w11 ⟨rfl, hb⟩
  have HC11 := Lib.hid (HC10.out.below hb)
  have HB11 := Lib.hid (HB10.out.call hb)
  clear hb
  go_wp2_with fail
  refine (putChanges_nil b _ w11 HC11.out.cell rfl).mono ?_
  rintro en w12 ⟨rfl, hb⟩
  have HC12 := Lib.hid (HC11.out.below hb)
  have HB12 := Lib.hid (HB11.out.call hb)
  clear hb
  go_wp2_with fail
  refine (putTexts_nil b _ w12 HC12.out.cell rfl).mono ?_
  rintro en w13 ⟨rfl, hb⟩
  have HC13 := Lib.hid (HC12.out.below hb)
  have HB13 := Lib.hid (HB12.out.call hb)
  clear hb
  go_wp2_with fail
  refine (putInts_nil b _ w13 HC13.out.cell rfl).mono ?_
  rintro en w14 ⟨rfl, hb⟩
  have HC14 := Lib.hid (HC13.out.below hb)
  have HB14 := Lib.hid (HB13.out.call hb)
  clear hb
  go_wp2_with fail
  refine (putAccounts_nil b _ w14 HC14.out.cell rfl).mono ?_
  rintro en w15 ⟨rfl, hb⟩
  have HC15 := Lib.hid (HC14.out.below hb)
  have HB15 := Lib.hid (HB14.out.call hb)
  clear hb
  go_wp2_with fail
  refine (putBal_any HC15.out.cell rfl HC15.out.os HC15.out.lv HC15.out.notV HC15.out.sv hn HL.out).mono ?_
  rintro en w16 ⟨rfl, hb, M, hM, hML⟩
  have HC16 := Lib.hid (HC15.out.putB hb hM)
  have HML := Lib.hid hML
  have HB16 := Lib.hid (HB15.out.trans (hb.mono (fun k _ hk => HIV.out k hk)))
  clear hb hM hML
  go_wp2_with fail
  refine (putLines_nil b _ w16 HC16.out.cell rfl).mono ?_
  rintro en w17 ⟨rfl, hb⟩
  have HC17 := Lib.hid (HC16.out.below hb)
  have HB17 := Lib.hid (HB16.out.call hb)
  clear hb
  go_wp2_with fail
  refine (putConflicts_nil b _ w17 HC17.out.cell rfl).mono ?_
  rintro en w18 ⟨rfl, hb⟩
  have HC18 := Lib.hid (HC17.out.below hb)
  have HB18 := Lib.hid (HB17.out.call hb)
  clear hb
  go_wp2_with fail
  refine (putTrios_nil b _ w18 HC18.out.cell rfl).mono ?_
  rintro en w19 ⟨rfl, hb⟩
  have HC19 := Lib.hid (HC18.out.below hb)
  have HB19 := Lib.hid (HB18.out.call hb)
  clear hb
  go_wp2_with fail
  refine (putPair_any HC19.out.cell rfl HC19.out.op HC19.out.lp HC19.out.notP HC19.out.sp hn2 HM0.out).mono ?_
  rintro en w20 ⟨rfl, hb, Q, hM, hML⟩
  have HC20 := Lib.hid (HC19.out.putP hb hM)
  have HQL := Lib.hid hML
  have HB20 := Lib.hid (HB19.out.trans (hb.mono (fun k _ hk => HIP.out k hk)))
  clear hb hM hML
  go_wp2_with fail
  refine (growTexts_nil b _ w20 HC20.out.cell rfl).mono ?_
  rintro en w21 ⟨rfl, hb⟩
  have HC21 := Lib.hid (HC20.out.below hb)
  have HB21 := Lib.hid (HB20.out.call hb)
  clear hb
  go_wp2_with fail
  refine (growInts_nil b _ w21 HC21.out.cell rfl).mono ?_
  rintro en w22 ⟨rfl, hb⟩
  have HC22 := Lib.hid (HC21.out.below hb)
  have HB22 := Lib.hid (HB21.out.call hb)
  clear hb
  go_wp2_with fail
  refine (growAccounts_nil b _ w22 HC22.out.cell rfl).mono ?_
  rintro en w23 ⟨rfl, hb⟩
  have HC23 := Lib.hid (HC22.out.below hb)
  have HB23 := Lib.hid (HB22.out.call hb)
  clear hb
  go_wp2_with fail
  refine (growBal_far HC23.out.cell rfl HC23.out.os HC23.out.lv HC23.out.notV HC23.out.sv hn HML.out (Nat.le_trans hbs HB23.out.size)).mono ?_
  rintro en w24 ⟨vo, cur, C, rfl, ho, hrc, hrv, hb, hcl0, hCL, hfar⟩
  obtain ⟨ga, gc, rfl, _, _, _⟩ := ho.slice
  have HC24 : Hid (BothG w24 b base (.slice sa vs.length sc) (.slice ta us.length tc) vs M (.slice ga cur.length gc) cur C (.slice pa ps.length pc) (.slice qa qs.length qc) ps Q) := Lib.hid ⟨(hb.block b (blk_lt HC23.out.cell) HC23.out.notV).trans HC23.out.cell, HC23.out.os.but balV_Free hb (notin_of HC23.out.sv), hrv, ho.mono (Nat.le_trans hbs HB23.out.size), hrc, HC23.out.op.but pairV_Free hb (notin_of HC23.out.xp), HC23.out.lp.butI pair_Free hb (fun k hp hv => inv_apart HC23.out.xv k hv hp), HC23.out.sp, HC23.out.notP, HC23.out.xs, fun y hy => apart_new (fun k hk => (ho.lt k hk).1) (fun k hk => (HC23.out.lp.lt hy k hk).2), inv_apart HC23.out.xv, fun k hk hp => (by
    rcases hfar k hk with h1 | h1
    · exact inv_apart HC23.out.xv k h1 hp
    · obtain ⟨y, hy, hyk⟩ := hp
      have := (HC23.out.lp.lt hy k hyk).2
      omega)⟩
  have HCL := Lib.hid hCL
  have hcl : Hid (cur.length = vs.length) := Lib.hid hcl0
  have HB24 := Lib.hid (HB23.out.trans (hb.mono (fun k _ hk => HIV.out k hk)))
  clear ho hrc hrv hb hCL hcl0 hfar
  go_wp2_with fail
  refine (growLines_nil b _ w24 HC24.out.cell rfl).mono ?_
  rintro en w25 ⟨rfl, hb⟩
  have HC25 := Lib.hid (HC24.out.below hb)
  have HB25 := Lib.hid (HB24.out.call hb)
  clear hb
  go_wp2_with fail
  refine (growJournals_nil b _ w25 HC25.out.cell rfl).mono ?_
  rintro en w26 ⟨rfl, hb⟩
  have HC26 := Lib.hid (HC25.out.below hb)
  have HB26 := Lib.hid (HB25.out.call hb)
  clear hb
  go_wp2_with fail
  refine (growChanges_nil b _ w26 HC26.out.cell rfl).mono ?_
  rintro en w27 ⟨rfl, hb⟩
  have HC27 := Lib.hid (HC26.out.below hb)
  have HB27 := Lib.hid (HB26.out.call hb)
  clear hb
  go_wp2_with fail
  refine (growConflicts_nil b _ w27 HC27.out.cell rfl).mono ?_
  rintro en w28 ⟨rfl, hb⟩
  have HC28 := Lib.hid (HC27.out.below hb)
  have HB28 := Lib.hid (HB27.out.call hb)
  clear hb
  go_wp2_with fail
  refine (growTrios_nil b _ w28 HC28.out.cell rfl).mono ?_
  rintro en w29 ⟨rfl, hb⟩
  have HC29 := Lib.hid (HC28.out.below hb)
  have HB29 := Lib.hid (HB28.out.call hb)
  clear hb
  go_wp2_with fail
  refine (growPair_any HC29.out.cell rfl HC29.out.op HC29.out.lp HC29.out.nb HC29.out.sp hn2 HQL.out (Nat.le_trans hbs HB29.out.size)).mono ?_
  rintro en w30 ⟨vp, cup, D, rfl, ho, hrc, hrv, hb, hcl0, hCL⟩
  obtain ⟨ha, hc, rfl, _, _, _⟩ := ho.slice
  have HC30 : Hid (BothH w30 b base (.slice sa vs.length sc) (.slice ta us.length tc) vs M (.slice ga cur.length gc) cur C (.slice pa ps.length pc) (.slice qa qs.length qc) ps Q (.slice ha cup.length hc) cup D) := Lib.hid ⟨(hb.block b (blk_lt HC29.out.cell) HC29.out.nb).trans HC29.out.cell, HC29.out.os.but balV_Free hb (notin_of HC29.out.fs), HC29.out.rv.but hb HC29.out.fv, HC29.out.og.but balV_Free hb (notin_of HC29.out.fo), HC29.out.rg.but hb HC29.out.fc, HC29.out.op.but pairV_Free hb (notin_of HC29.out.sp), hrv, ho.mono (Nat.le_trans hbs HB29.out.size), hrc⟩
  have HDL := Lib.hid hCL
  have hdl : Hid (cup.length = ps.length) := Lib.hid hcl0
  have HB30 := Lib.hid (HB29.out.trans (hb.mono (fun k _ hk => HIP.out k hk)))
  clear ho hrc hrv hb hCL hcl0
  go_wp2_with fail
  refine (markedTexts_nil w30).mono ?_
  rintro en w31 ⟨rfl, hb⟩
  have HC31 := Lib.hid (HC30.out.below hb)
  have HB31 := Lib.hid (HB30.out.call hb)
  have hz0 : w31.cell? ⟨b, 0, none⟩ = some (.slice none 0 0) := by rw [blk_cells HC31.out.cell]; rfl
  clear hb
  go_wp2_with fail
  refine (markedTexts_nil w31).mono ?_
  rintro en w32 ⟨rfl, hb⟩
  have HC32 := Lib.hid (HC31.out.below hb)
  have HB32 := Lib.hid (HB31.out.call hb)
  clear hb
  go_wp2_with fail
  refine (markedInts_nil w32).mono ?_
  rintro en w33 ⟨rfl, hb⟩
  have HC33 := Lib.hid (HC32.out.below hb)
  have HB33 := Lib.hid (HB32.out.call hb)
  have hz2 : w33.cell? ⟨b, 2, none⟩ = some (.slice none 0 0) := by rw [blk_cells HC33.out.cell]; rfl
  clear hb
  go_wp2_with fail
  refine (markedInts_nil w33).mono ?_
  rintro en w34 ⟨rfl, hb⟩
  have HC34 := Lib.hid (HC33.out.below hb)
  have HB34 := Lib.hid (HB33.out.call hb)
  clear hb
  go_wp2_with fail
  refine (markedAccounts_nil w34).mono ?_
  rintro en w35 ⟨rfl, hb⟩
  have HC35 := Lib.hid (HC34.out.below hb)
  have HB35 := Lib.hid (HB34.out.call hb)
  have hz4 : w35.cell? ⟨b, 4, none⟩ = some (.slice none 0 0) := by rw [blk_cells HC35.out.cell]; rfl
  clear hb
  go_wp2_with fail
  refine (markedAccounts_nil w35).mono ?_
  rintro en w36 ⟨rfl, hb⟩
  have HC36 := Lib.hid (HC35.out.below hb)
  have HB36 := Lib.hid (HB35.out.call hb)
  clear hb
  go_wp2_with fail
  refine (markedBal_any HC36.out.og.sl HC36.out.rg (by have := hcl.out; omega) (fun i l h => by have := HCL.out i l h; exact ⟨this.1, by omega⟩)).mono ?_
  rintro en w37 ⟨rfl, hb⟩
  have HC37 := Lib.hid (HC36.out.below hb)
  have HB37 := Lib.hid (HB36.out.call hb)
  have hz6 : w37.cell? ⟨b, 6, none⟩ = some (.slice sa vs.length sc) := by rw [blk_cells HC37.out.cell]; rfl
  clear hb
  go_wp2_with fail
  refine (markedBal_any HC37.out.os.sl HC37.out.rv hn (fun i l h => by have := HML.out i l h; exact ⟨this.1, by omega⟩)).mono ?_
  rintro en w38 ⟨rfl, hb⟩
  have HC38 := Lib.hid (HC37.out.below hb)
  have HB38 := Lib.hid (HB37.out.call hb)
  clear hb
  go_wp2_with fail
  refine (markedLines_nil w38).mono ?_
  rintro en w39 ⟨rfl, hb⟩
  have HC39 := Lib.hid (HC38.out.below hb)
  have HB39 := Lib.hid (HB38.out.call hb)
  have hz8 : w39.cell? ⟨b, 8, none⟩ = some (.slice none 0 0) := by rw [blk_cells HC39.out.cell]; rfl
  clear hb
  go_wp2_with fail
  refine (markedLines_nil w39).mono ?_
  rintro en w40 ⟨rfl, hb⟩
  have HC40 := Lib.hid (HC39.out.below hb)
  have HB40 := Lib.hid (HB39.out.call hb)
  clear hb
  go_wp2_with fail
  refine (markedJournals_nil w40).mono ?_
  rintro en w41 ⟨rfl, hb⟩
  have HC41 := Lib.hid (HC40.out.below hb)
  have HB41 := Lib.hid (HB40.out.call hb)
  have hz10 : w41.cell? ⟨b, 10, none⟩ = some (.slice none 0 0) := by rw [blk_cells HC41.out.cell]; rfl
  clear hb
  go_wp2_with fail
  refine (markedJournals_nil w41).mono ?_
  rintro en w42 ⟨rfl, hb⟩
  have HC42 := Lib.hid (HC41.out.below hb)
  have HB42 := Lib.hid (HB41.out.call hb)
  clear hb
  go_wp2_with fail
  refine (markedChanges_nil w42).mono ?_
  rintro en w43 ⟨rfl, hb⟩
  have HC43 := Lib.hid (HC42.out.below hb)
  have HB43 := Lib.hid (HB42.out.call hb)
  have hz12 : w43.cell? ⟨b, 12, none⟩ = some (.slice none 0 0) := by rw [blk_cells HC43.out.cell]; rfl
  clear hb
  go_wp2_with fail
  refine (markedChanges_nil w43).mono ?_
  rintro en w44 ⟨rfl, hb⟩
  have HC44 := Lib.hid (HC43.out.below hb)
  have HB44 := Lib.hid (HB43.out.call hb)
  clear hb
  go_wp2_with fail
  refine (markedConflicts_nil w44).mono ?_
  rintro en w45 ⟨rfl, hb⟩
  have HC45 := Lib.hid (HC44.out.below hb)
  have HB45 := Lib.hid (HB44.out.call hb)
  have hz14 : w45.cell? ⟨b, 14, none⟩ = some (.slice none 0 0) := by rw [blk_cells HC45.out.cell]; rfl
  clear hb
  go_wp2_with fail
  refine (markedConflicts_nil w45).mono ?_
  rintro en w46 ⟨rfl, hb⟩
  have HC46 := Lib.hid (HC45.out.below hb)
  have HB46 := Lib.hid (HB45.out.call hb)
  clear hb
  go_wp2_with fail
  refine (markedTrios_nil w46).mono ?_
  rintro en w47 ⟨rfl, hb⟩
  have HC47 := Lib.hid (HC46.out.below hb)
  have HB47 := Lib.hid (HB46.out.call hb)
  have hz16 : w47.cell? ⟨b, 16, none⟩ = some (.slice none 0 0) := by rw [blk_cells HC47.out.cell]; rfl
  clear hb
  go_wp2_with fail
  refine (markedTrios_nil w47).mono ?_
  rintro en w48 ⟨rfl, hb⟩
  have HC48 := Lib.hid (HC47.out.below hb)
  have HB48 := Lib.hid (HB47.out.call hb)
  clear hb
  go_wp2_with fail
  refine (markedPair_any HC48.out.oh.sl HC48.out.rh (by have := hdl.out; omega) (fun i l h => by have := HDL.out i l h; exact ⟨this.1, by omega⟩)).mono ?_
  rintro en w49 ⟨rfl, hb⟩
  have HC49 := Lib.hid (HC48.out.below hb)
  have HB49 := Lib.hid (HB48.out.call hb)
  have hz18 : w49.cell? ⟨b, 18, none⟩ = some (.slice pa ps.length pc) := by rw [blk_cells HC49.out.cell]; rfl
  clear hb
  go_wp2_with fail
  refine (markedPair_any HC49.out.op.sl HC49.out.rp hn2 (fun i l h => by have := HQL.out i l h; exact ⟨this.1, by omega⟩)).mono ?_
  rintro en w50 ⟨rfl, hb⟩
  have HC50 := Lib.hid (HC49.out.below hb)
  have HB50 := Lib.hid (HB49.out.call hb)
  clear hb
  go_wp2_with fail
  go_ret
  exact ⟨rfl, HB50.out⟩
end Go.Proofs.YtfnmlpnncjhnmaaGreat
