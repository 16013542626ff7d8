/- variorumbook: Book.Apart where trios alone are kept. Printed by mktrios.py. -/
import Derived.Test.YtacemlbfifhllaaGreatX37GatesPlay
import Derived.Test.YtacemlbfifhllaaGreatX38GatesPlay
set_option linter.unusedVariables false
set_option linter.unusedSimpArgs false
namespace Go.Proofs.YtacemlbfifhllaaGreat
open Go.RowKit Go.Maps Go.Deep

theorem KeptT.below {w w' : World} {b base : Nat} {s t : Value} {vs us : List Value} {L : List (List (Int × Int × Int))} (h : KeptT w b base s t vs us L) (hb : Below w.heap.size w w') : KeptT w' b base s t vs us L :=
  ⟨blk_below h.cell hb, h.bb, h.os.below hb, h.ot.below hb, h.lv.below hb, h.lu.below hb, h.st, h.sv, h.su, h.tv, h.tu, h.vu⟩
/-- the Book without the copies -/
structure KeptCT (w : World) (b base : Nat) (s t : Value) (vs : List Value) (L : List (List (Int × Int × Int))) : Prop where
  cell : w.heap[b]? = some (.cells (bookT s t) 41 (0, 0))
  bb : b < base
  os : OwnL tTrioV w base s vs
  lv : Lots tTrio w base vs L
  sv : ∀ v ∈ vs, ApartV s v
section
variable {w w' : World} {b base : Nat} {s t : Value} {vs : List Value} {L : List (List (Int × Int × Int))}
theorem KeptCT.below (h : KeptCT w b base s t vs L) (hb : Below w.heap.size w w') : KeptCT w' b base s t vs L :=
  ⟨blk_below h.cell hb, h.bb, h.os.below hb, h.lv.below hb, h.sv⟩
theorem KeptCT.notin (h : KeptCT w b base s t vs L) : ¬ InV vs b := fun ⟨v, hv, hk⟩ => by
  have := (h.lv.lt hv b hk).1
  have := h.bb
  omega
theorem KeptCT.put {C : List (List (Int × Int × Int))} (h : KeptCT w b base s t vs L) (hb : But (InV vs) w w') (hC : Lots tTrio w' base vs C) : KeptCT w' b base s t vs C :=
  ⟨(hb.block b (blk_lt h.cell) h.notin).trans h.cell, h.bb, h.os.but trioV_Free hb (fun k hk ⟨v, hv, hvk⟩ => by
    rcases h.sv v hv with h1 | h1
    · rw [h1] at hk; cases hk
    · exact h1 (by rw [hk, hvk])), hC, h.sv⟩
end
/-- all of it grown: the Book's lists read, the grown ones read -/
structure KeptGT (w : World) (b base : Nat) (s t : Value) (vs : List Value) (L : List (List (Int × Int × Int))) (vo : Value) (cur : List Value) (C : List (List (Int × Int × Int))) : Prop where
  cell : w.heap[b]? = some (.cells (bookT s t) 41 (0, 0))
  os : OwnL tTrioV w base s vs
  rv : ReadsT w vs L
  og : OwnL tTrioV w base vo cur
  rg : ReadsT w cur C
theorem KeptGT.below {w w' : World} {b base : Nat} {s t vo : Value} {vs cur : List Value} {L C : List (List (Int × Int × Int))} (h : KeptGT w b base s t vs L vo cur C) (hb : Below w.heap.size w w') : KeptGT w' b base s t vs L vo cur C :=
  ⟨blk_below h.cell hb, h.os.below hb, h.rv.keep hb, h.og.below hb, h.rg.keep hb⟩

set_option maxHeartbeats 16000000 in
set_option maxRecDepth 100000 in
theorem kapartT_any {w : World} {b base : Nat} {s t : Value} {vs us : List Value} {L : List (List (Int × Int × Int))} (h : KeptT w b base s t vs us L) (hn : vs.length ≤ 1000) (hL : ∀ (i : Nat) (l : List (Int × Int × Int)), L[i]? = some l → l.length ≤ 100000) (hbs : base ≤ w.heap.size) :
    Calls Tryz.prog 14 #[.pointer (some ⟨b, 0, none⟩)] w fun e w' => e = .returned (.bool true) ∧ But (fun k => b ≤ k) w w' := by
  obtain ⟨sa, sc, rfl, _, _, _⟩ := h.os.slice
  obtain ⟨ta, tc, rfl, _, _, _⟩ := h.ot.slice
  have HL := Lib.hid hL
  have hbb := Lib.hid h.bb
  have HIV : Hid (∀ k, InV vs k → b ≤ k) := Lib.hid (fun k ⟨v, hv, hk⟩ => by have := (h.lv.lt hv k hk).1; have := h.bb; omega)
  have HK0 := Lib.hid h
  have HB0 : Hid (But (fun k => b ≤ k) w w) := Lib.hid (But.refl _ _)
  clear h hL
  go_enter Tryz.func14, Tryz.ntmps14
  go_wp2_with fail
  refine (stillTexts_nil b _ w HK0.out.cell rfl).mono ?_
  rintro en w1 ⟨rfl, hb⟩
  have HK1 := Lib.hid (HK0.out.below hb)
  have HB1 := Lib.hid (HB0.out.call hb)
  clear hb
  go_wp2_with fail
  refine (stillInts_nil b _ w1 HK1.out.cell rfl).mono ?_
  rintro en w2 ⟨rfl, hb⟩
  have HK2 := Lib.hid (HK1.out.below hb)
  have HB2 := Lib.hid (HB1.out.call hb)
  clear hb
  go_wp2_with fail
  refine (stillAccounts_nil b _ w2 HK2.out.cell rfl).mono ?_
  rintro en w3 ⟨rfl, hb⟩
  have HK3 := Lib.hid (HK2.out.below hb)
  have HB3 := Lib.hid (HB2.out.call hb)
  clear hb
  go_wp2_with fail
  refine (stillBalances_nil b _ w3 HK3.out.cell rfl).mono ?_
  rintro en w4 ⟨rfl, hb⟩
  have HK4 := Lib.hid (HK3.out.below hb)
  have HB4 := Lib.hid (HB3.out.call hb)
  clear hb
  go_wp2_with fail
  refine (stillLines_nil b _ w4 HK4.out.cell rfl).mono ?_
  rintro en w5 ⟨rfl, hb⟩
  have HK5 := Lib.hid (HK4.out.below hb)
  have HB5 := Lib.hid (HB4.out.call hb)
  clear hb
  go_wp2_with fail
  refine (stillJournals_nil b _ w5 HK5.out.cell rfl).mono ?_
  rintro en w6 ⟨rfl, hb⟩
  have HK6 := Lib.hid (HK5.out.below hb)
  have HB6 := Lib.hid (HB5.out.call hb)
  clear hb
  go_wp2_with fail
  refine (stillChanges_nil b _ w6 HK6.out.cell rfl).mono ?_
  rintro en w7 ⟨rfl, hb⟩
  have HK7 := Lib.hid (HK6.out.below hb)
  have HB7 := Lib.hid (HB6.out.call hb)
  clear hb
  go_wp2_with fail
  refine (stillConflicts_nil b _ w7 HK7.out.cell rfl).mono ?_
  rintro en w8 ⟨rfl, hb⟩
  have HK8 := Lib.hid (HK7.out.below hb)
  have HB8 := Lib.hid (HB7.out.call hb)
  clear hb
  go_wp2_with fail
  refine (stillTrio_any HK8.out.cell rfl rfl HK8.out.os.sl HK8.out.ot.sl HK8.out.lv.readsT HK8.out.lu.readsT hn (fun i l h => by have := HL.out i l h; unfold maxLen; omega)).mono ?_
  rintro en w9 ⟨rfl, hb⟩
  have HK9 := Lib.hid (HK8.out.below hb)
  have HB9 := Lib.hid (HB8.out.call hb)
  clear hb
  go_wp2_with fail
  refine (stillPairs_nil b _ w9 HK9.out.cell rfl).mono ?_
  rintro en w10 ⟨rfl, hb⟩
  have HK10 := Lib.hid (HK9.out.below hb)
  have HB10 := Lib.hid (HB9.out.call hb)
  clear hb
  go_wp2_with fail
  have HC10 : Hid (KeptCT w10 b base (.slice sa vs.length sc) (.slice ta us.length tc) vs L) := Lib.hid ⟨HK10.out.cell, HK10.out.bb, HK10.out.os, HK10.out.lv, HK10.out.sv⟩
  refine (putJournals_nil b _ w10 HC10.out.cell rfl).mono ?_
  rintro en w11 ⟨rfl, hb⟩
  have HC11 := Lib.hid (HC10.out.below hb)
  have HB11 := Lib.hid (HB10.out.call hb)
  clear hb
  go_wp2_with fail
  refine (putChanges_nil b _ w11 HC11.out.cell rfl).mono ?_
  rintro en w12 ⟨rfl, hb⟩
  have HC12 := Lib.hid (HC11.out.below hb)
  have HB12 := Lib.hid (HB11.out.call hb)
  clear hb
  go_wp2_with fail
  refine (putTexts_nil b _ w12 HC12.out.cell rfl).mono ?_
  rintro en w13 ⟨rfl, hb⟩
  have HC13 := Lib.hid (HC12.out.below hb)
  have HB13 := Lib.hid (HB12.out.call hb)
  clear hb
  go_wp2_with fail
  refine (putInts_nil b _ w13 HC13.out.cell rfl).mono ?_
  rintro en w14 ⟨rfl, hb⟩
  have HC14 := Lib.hid (HC13.out.below hb)
  have HB14 := Lib.hid (HB13.out.call hb)
  clear hb
  go_wp2_with fail
  refine (putAccounts_nil b _ w14 HC14.out.cell rfl).mono ?_
  rintro en w15 ⟨rfl, hb⟩
  have HC15 := Lib.hid (HC14.out.below hb)
  have HB15 := Lib.hid (HB14.out.call hb)
  clear hb
  go_wp2_with fail
  refine (putBalances_nil b _ w15 HC15.out.cell rfl).mono ?_
  rintro en w16 ⟨rfl, hb⟩
  have HC16 := Lib.hid (HC15.out.below hb)
  have HB16 := Lib.hid (HB15.out.call hb)
  clear hb
  go_wp2_with fail
  refine (putLines_nil b _ w16 HC16.out.cell rfl).mono ?_
  rintro en w17 ⟨rfl, hb⟩
  have HC17 := Lib.hid (HC16.out.below hb)
  have HB17 := Lib.hid (HB16.out.call hb)
  clear hb
  go_wp2_with fail
  refine (putConflicts_nil b _ w17 HC17.out.cell rfl).mono ?_
  rintro en w18 ⟨rfl, hb⟩
  have HC18 := Lib.hid (HC17.out.below hb)
  have HB18 := Lib.hid (HB17.out.call hb)
  clear hb
  go_wp2_with fail
  refine (putTrio_any HC18.out.cell rfl HC18.out.os HC18.out.lv HC18.out.notin HC18.out.sv hn HL.out).mono ?_
  rintro en w19 ⟨rfl, hb, M, hM, hML⟩
  have HC19 := Lib.hid (HC18.out.put hb hM)
  have HML := Lib.hid hML
  have HB19 := Lib.hid (HB18.out.trans (hb.mono (fun k _ hk => HIV.out k hk)))
  clear hb hM hML
  go_wp2_with fail
  refine (putPairs_nil b _ w19 HC19.out.cell rfl).mono ?_
  rintro en w20 ⟨rfl, hb⟩
  have HC20 := Lib.hid (HC19.out.below hb)
  have HB20 := Lib.hid (HB19.out.call hb)
  clear hb
  go_wp2_with fail
  refine (growTexts_nil b _ w20 HC20.out.cell rfl).mono ?_
  rintro en w21 ⟨rfl, hb⟩
  have HC21 := Lib.hid (HC20.out.below hb)
  have HB21 := Lib.hid (HB20.out.call hb)
  clear hb
  go_wp2_with fail
  refine (growInts_nil b _ w21 HC21.out.cell rfl).mono ?_
  rintro en w22 ⟨rfl, hb⟩
  have HC22 := Lib.hid (HC21.out.below hb)
  have HB22 := Lib.hid (HB21.out.call hb)
  clear hb
  go_wp2_with fail
  refine (growAccounts_nil b _ w22 HC22.out.cell rfl).mono ?_
  rintro en w23 ⟨rfl, hb⟩
  have HC23 := Lib.hid (HC22.out.below hb)
  have HB23 := Lib.hid (HB22.out.call hb)
  clear hb
  go_wp2_with fail
  refine (growBalances_nil b _ w23 HC23.out.cell rfl).mono ?_
  rintro en w24 ⟨rfl, hb⟩
  have HC24 := Lib.hid (HC23.out.below hb)
  have HB24 := Lib.hid (HB23.out.call hb)
  clear hb
  go_wp2_with fail
  refine (growLines_nil b _ w24 HC24.out.cell rfl).mono ?_
  rintro en w25 ⟨rfl, hb⟩
  have HC25 := Lib.hid (HC24.out.below hb)
  have HB25 := Lib.hid (HB24.out.call hb)
  clear hb
  go_wp2_with fail
  refine (growJournals_nil b _ w25 HC25.out.cell rfl).mono ?_
  rintro en w26 ⟨rfl, hb⟩
  have HC26 := Lib.hid (HC25.out.below hb)
  have HB26 := Lib.hid (HB25.out.call hb)
  clear hb
  go_wp2_with fail
  refine (growChanges_nil b _ w26 HC26.out.cell rfl).mono ?_
  rintro en w27 ⟨rfl, hb⟩
  have HC27 := Lib.hid (HC26.out.below hb)
  have HB27 := Lib.hid (HB26.out.call hb)
  clear hb
  go_wp2_with fail
  refine (growConflicts_nil b _ w27 HC27.out.cell rfl).mono ?_
  rintro en w28 ⟨rfl, hb⟩
  have HC28 := Lib.hid (HC27.out.below hb)
  have HB28 := Lib.hid (HB27.out.call hb)
  clear hb
  go_wp2_with fail
  refine (growTrio_any HC28.out.cell rfl HC28.out.os HC28.out.lv HC28.out.notin HC28.out.sv hn HML.out (Nat.le_trans hbs HB28.out.size)).mono ?_
  rintro en w29 ⟨vo, cur, C, rfl, ho, hrc, hrv, hb, hcl0, hCL⟩
  obtain ⟨ga, gc, rfl, _, _, _⟩ := ho.slice
  have HC29 : Hid (KeptGT w29 b base (.slice sa vs.length sc) (.slice ta us.length tc) vs M (.slice ga cur.length gc) cur C) := Lib.hid ⟨(hb.block b (blk_lt HC28.out.cell) HC28.out.notin).trans HC28.out.cell, HC28.out.os.but trioV_Free hb (fun k hk ⟨v, hv, hvk⟩ => by
    rcases HC28.out.sv v hv with h1 | h1
    · rw [h1] at hk; cases hk
    · exact h1 (by rw [hk, hvk])), hrv, ho.mono (Nat.le_trans hbs HB28.out.size), hrc⟩
  have HCL := Lib.hid hCL
  have hcl : Hid (cur.length = vs.length) := Lib.hid hcl0
  have HB29 := Lib.hid (HB28.out.trans (hb.mono (fun k _ hk => HIV.out k hk)))
  clear ho hrc hrv hb hCL hcl0
  go_wp2_with fail
  refine (growPairs_nil b _ w29 HC29.out.cell rfl).mono ?_
  rintro en w30 ⟨rfl, hb⟩
  have HC30 := Lib.hid (HC29.out.below hb)
  have HB30 := Lib.hid (HB29.out.call hb)
  clear hb
  go_wp2_with fail
  refine (markedTexts_nil w30).mono ?_
  rintro en w31 ⟨rfl, hb⟩
  have HC31 := Lib.hid (HC30.out.below hb)
  have HB31 := Lib.hid (HB30.out.call hb)
  have hz0 : w31.cell? ⟨b, 0, none⟩ = some (.slice none 0 0) := by rw [blk_cells HC31.out.cell]; rfl
  clear hb
  go_wp2_with fail
  refine (markedTexts_nil w31).mono ?_
  rintro en w32 ⟨rfl, hb⟩
  have HC32 := Lib.hid (HC31.out.below hb)
  have HB32 := Lib.hid (HB31.out.call hb)
  clear hb
  go_wp2_with fail
  refine (markedInts_nil w32).mono ?_
  rintro en w33 ⟨rfl, hb⟩
  have HC33 := Lib.hid (HC32.out.below hb)
  have HB33 := Lib.hid (HB32.out.call hb)
  have hz2 : w33.cell? ⟨b, 2, none⟩ = some (.slice none 0 0) := by rw [blk_cells HC33.out.cell]; rfl
  clear hb
  go_wp2_with fail
  refine (markedInts_nil w33).mono ?_
  rintro en w34 ⟨rfl, hb⟩
  have HC34 := Lib.hid (HC33.out.below hb)
  have HB34 := Lib.hid (HB33.out.call hb)
  clear hb
  go_wp2_with fail
  refine (markedAccounts_nil w34).mono ?_
  rintro en w35 ⟨rfl, hb⟩
  have HC35 := Lib.hid (HC34.out.below hb)
  have HB35 := Lib.hid (HB34.out.call hb)
  have hz4 : w35.cell? ⟨b, 4, none⟩ = some (.slice none 0 0) := by rw [blk_cells HC35.out.cell]; rfl
  clear hb
  go_wp2_with fail
  refine (markedAccounts_nil w35).mono ?_
  rintro en w36 ⟨rfl, hb⟩
  have HC36 := Lib.hid (HC35.out.below hb)
  have HB36 := Lib.hid (HB35.out.call hb)
  clear hb
  go_wp2_with fail
  refine (markedBalances_nil w36).mono ?_
  rintro en w37 ⟨rfl, hb⟩
  have HC37 := Lib.hid (HC36.out.below hb)
  have HB37 := Lib.hid (HB36.out.call hb)
  have hz6 : w37.cell? ⟨b, 6, none⟩ = some (.slice none 0 0) := by rw [blk_cells HC37.out.cell]; rfl
  clear hb
  go_wp2_with fail
  refine (markedBalances_nil w37).mono ?_
  rintro en w38 ⟨rfl, hb⟩
  have HC38 := Lib.hid (HC37.out.below hb)
  have HB38 := Lib.hid (HB37.out.call hb)
  clear hb
  go_wp2_with fail
  refine (markedLines_nil w38).mono ?_
  rintro en w39 ⟨rfl, hb⟩
  have HC39 := Lib.hid (HC38.out.below hb)
  have HB39 := Lib.hid (HB38.out.call hb)
  have hz8 : w39.cell? ⟨b, 8, none⟩ = some (.slice none 0 0) := by rw [blk_cells HC39.out.cell]; rfl
  clear hb
  go_wp2_with fail
  refine (markedLines_nil w39).mono ?_
  rintro en w40 ⟨rfl, hb⟩
  have HC40 := Lib.hid (HC39.out.below hb)
  have HB40 := Lib.hid (HB39.out.call hb)
  clear hb
  go_wp2_with fail
  refine (markedJournals_nil w40).mono ?_
  rintro en w41 ⟨rfl, hb⟩
  have HC41 := Lib.hid (HC40.out.below hb)
  have HB41 := Lib.hid (HB40.out.call hb)
  have hz10 : w41.cell? ⟨b, 10, none⟩ = some (.slice none 0 0) := by rw [blk_cells HC41.out.cell]; rfl
  clear hb
  go_wp2_with fail
  refine (markedJournals_nil w41).mono ?_
  rintro en w42 ⟨rfl, hb⟩
  have HC42 := Lib.hid (HC41.out.below hb)
  have HB42 := Lib.hid (HB41.out.call hb)
  clear hb
  go_wp2_with fail
  refine (markedChanges_nil w42).mono ?_
  rintro en w43 ⟨rfl, hb⟩
  have HC43 := Lib.hid (HC42.out.below hb)
  have HB43 := Lib.hid (HB42.out.call hb)
  have hz12 : w43.cell? ⟨b, 12, none⟩ = some (.slice none 0 0) := by rw [blk_cells HC43.out.cell]; rfl
  clear hb
  go_wp2_with fail
  refine (markedChanges_nil w43).mono ?_
  rintro en w44 ⟨rfl, hb⟩
  have HC44 := Lib.hid (HC43.out.below hb)
  have HB44 := Lib.hid (HB43.out.call hb)
  clear hb
  go_wp2_with fail
  refine (markedConflicts_nil w44).mono ?_
  rintro en w45 ⟨rfl, hb⟩
  have HC45 := Lib.hid (HC44.out.below hb)
  have HB45 := Lib.hid (HB44.out.call hb)
  have hz14 : w45.cell? ⟨b, 14, none⟩ = some (.slice none 0 0) := by rw [blk_cells HC45.out.cell]; rfl
  clear hb
  go_wp2_with fail
  refine (markedConflicts_nil w45).mono ?_
  rintro en w46 ⟨rfl, hb⟩
  have HC46 := Lib.hid (HC45.out.below hb)
  have HB46 := Lib.hid (HB45.out.call hb)
  clear hb
  go_wp2_with fail
  refine (markedTrio_any HC46.out.og.sl HC46.out.rg (by have := hcl.out; omega) (fun i l h => by have := HCL.out i l h; exact ⟨this.1, by omega⟩)).mono ?_
  rintro en w47 ⟨rfl, hb⟩
  have HC47 := Lib.hid (HC46.out.below hb)
  have HB47 := Lib.hid (HB46.out.call hb)
  have hz16 : w47.cell? ⟨b, 16, none⟩ = some (.slice sa vs.length sc) := by rw [blk_cells HC47.out.cell]; rfl
  clear hb
  go_wp2_with fail
  refine (markedTrio_any HC47.out.os.sl HC47.out.rv hn (fun i l h => by have := HML.out i l h; exact ⟨this.1, by omega⟩)).mono ?_
  rintro en w48 ⟨rfl, hb⟩
  have HC48 := Lib.hid (HC47.out.below hb)
  have HB48 := Lib.hid (HB47.out.call hb)
  clear hb
  go_wp2_with fail
  refine (markedPairs_nil w48).mono ?_
  rintro en w49 ⟨rfl, hb⟩
  have HC49 := Lib.hid (HC48.out.below hb)
  have HB49 := Lib.hid (HB48.out.call hb)
  have hz18 : w49.cell? ⟨b, 18, none⟩ = some (.slice none 0 0) := by rw [blk_cells HC49.out.cell]; rfl
  clear hb
  go_wp2_with fail
  refine (markedPairs_nil w49).mono ?_
  rintro en w50 ⟨rfl, hb⟩
  have HC50 := Lib.hid (HC49.out.below hb)
  have HB50 := Lib.hid (HB49.out.call hb)
  clear hb
  go_wp2_with fail
  go_ret
  exact ⟨rfl, HB50.out⟩
end Go.Proofs.YtacemlbfifhllaaGreat
