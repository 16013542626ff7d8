/- variorumbook: Book.Apart where balances alone are kept. Printed by mkapart.py. -/
import Derived.Test.YtgggpaacagbmcaaGreatX31GroupTells
import Derived.Test.YtgggpaacagbmcaaGreatX47GroupTells
set_option linter.unusedVariables false
set_option linter.unusedSimpArgs false
namespace Go.Proofs.YtgggpaacagbmcaaGreat
open Go.RowKit Go.Maps Go.Deep

theorem KeptB.below {w w' : World} {b base : Nat} {s t : Value} {vs us : List Value} {L : List (List (Int × Int))} (h : KeptB w b base s t vs us L) (hb : Below w.heap.size w w') : KeptB w' b base s t vs us L :=
  ⟨blk_below h.cell hb, h.bb, h.os.below hb, h.ot.below hb, h.lv.below hb, h.lu.below hb, h.st, h.sv, h.su, h.tv, h.tu, h.vu⟩
/-- the Book without the copies -/
structure KeptC (w : World) (b base : Nat) (s t : Value) (vs : List Value) (L : List (List (Int × Int))) : Prop where
  cell : w.heap[b]? = some (.cells (bookB s t) 48 (0, 0))
  bb : b < base
  os : OwnL tBalV w base s vs
  lv : Lots tBal w base vs L
  sv : ∀ v ∈ vs, ApartV s v
section
variable {w w' : World} {b base : Nat} {s t : Value} {vs : List Value} {L : List (List (Int × Int))}
theorem KeptC.below (h : KeptC w b base s t vs L) (hb : Below w.heap.size w w') : KeptC w' b base s t vs L :=
  ⟨blk_below h.cell hb, h.bb, h.os.below hb, h.lv.below hb, h.sv⟩
theorem KeptC.notin (h : KeptC w b base s t vs L) : ¬ InV vs b := fun ⟨v, hv, hk⟩ => by
  have := (h.lv.lt hv b hk).1
  have := h.bb
  omega
theorem KeptC.put {C : List (List (Int × Int))} (h : KeptC w b base s t vs L) (hb : But (InV vs) w w') (hC : Lots tBal w' base vs C) : KeptC w' b base s t vs C :=
  ⟨(hb.block b (blk_lt h.cell) h.notin).trans h.cell, h.bb, h.os.but balV_Free hb (fun k hk ⟨v, hv, hvk⟩ => by
    rcases h.sv v hv with h1 | h1
    · rw [h1] at hk; cases hk
    · exact h1 (by rw [hk, hvk])), hC, h.sv⟩
end
/-- all of it grown: the Book's lists read, the grown ones read -/
structure KeptG (w : World) (b base : Nat) (s t : Value) (vs : List Value) (L : List (List (Int × Int))) (vo : Value) (cur : List Value) (C : List (List (Int × Int))) : Prop where
  cell : w.heap[b]? = some (.cells (bookB s t) 48 (0, 0))
  os : OwnL tBalV w base s vs
  rv : Reads w vs L
  og : OwnL tBalV w base vo cur
  rg : Reads w cur C
theorem KeptG.below {w w' : World} {b base : Nat} {s t vo : Value} {vs cur : List Value} {L C : List (List (Int × Int))} (h : KeptG w b base s t vs L vo cur C) (hb : Below w.heap.size w w') : KeptG w' b base s t vs L vo cur C :=
  ⟨blk_below h.cell hb, h.os.below hb, h.rv.keep hb, h.og.below hb, h.rg.keep hb⟩

set_option maxHeartbeats 16000000 in
set_option maxRecDepth 100000 in
theorem kapart_any {w : World} {b base : Nat} {s t : Value} {vs us : List Value} {L : List (List (Int × Int))} (h : KeptB w b base s t vs us L) (hn : vs.length ≤ 1000) (hL : ∀ (i : Nat) (l : List (Int × Int)), L[i]? = some l → l.length ≤ 100000) (hbs : base ≤ w.heap.size) :
    Calls Tryz.prog 17 #[.pointer (some ⟨b, 0, none⟩)] w fun e w' => e = .returned (.bool true) ∧ But (fun k => b ≤ k) w w' := by
  obtain ⟨sa, sc, rfl, _, _, _⟩ := h.os.slice
  obtain ⟨ta, tc, rfl, _, _, _⟩ := h.ot.slice
  have HL := Lib.hid hL
  have hbb := Lib.hid h.bb
  have HIV : Hid (∀ k, InV vs k → b ≤ k) := Lib.hid (fun k ⟨v, hv, hk⟩ => by have := (h.lv.lt hv k hk).1; have := h.bb; omega)
  have HK0 := Lib.hid h
  have HB0 : Hid (But (fun k => b ≤ k) w w) := Lib.hid (But.refl _ _)
  clear h hL
  go_enter Tryz.func17, Tryz.ntmps17
  go_wp2_with fail
  refine (stillTexts_nil b _ w HK0.out.cell rfl).mono ?_
  rintro en w1 ⟨rfl, hb⟩
  have HK1 := Lib.hid (HK0.out.below hb)
  have HB1 := Lib.hid (HB0.out.call hb)
  clear hb
  go_wp2_with fail
  refine (stillInts_nil b _ w1 HK1.out.cell rfl).mono ?_
  rintro en w2 ⟨rfl, hb⟩
  have HK2 := Lib.hid (HK1.out.below hb)
  have HB2 := Lib.hid (HB1.out.call hb)
  clear hb
  go_wp2_with fail
  refine (stillAccounts_nil b _ w2 HK2.out.cell rfl).mono ?_
  rintro en w3 ⟨rfl, hb⟩
  have HK3 := Lib.hid (HK2.out.below hb)
  have HB3 := Lib.hid (HB2.out.call hb)
  clear hb
  go_wp2_with fail
  refine (stillBal_any HK3.out.cell rfl rfl HK3.out.os.sl HK3.out.ot.sl HK3.out.lv.reads HK3.out.lu.reads hn (fun i l h => by have := HL.out i l h; unfold maxLen; omega)).mono ?_
  rintro en w4 ⟨rfl, hb⟩
  have HK4 := Lib.hid (HK3.out.below hb)
  have HB4 := Lib.hid (HB3.out.call hb)
  clear hb
  go_wp2_with fail
  refine (stillLines_nil b _ w4 HK4.out.cell rfl).mono ?_
  rintro en w5 ⟨rfl, hb⟩
  have HK5 := Lib.hid (HK4.out.below hb)
  have HB5 := Lib.hid (HB4.out.call hb)
  clear hb
  go_wp2_with fail
  refine (stillJournals_nil b _ w5 HK5.out.cell rfl).mono ?_
  rintro en w6 ⟨rfl, hb⟩
  have HK6 := Lib.hid (HK5.out.below hb)
  have HB6 := Lib.hid (HB5.out.call hb)
  clear hb
  go_wp2_with fail
  refine (stillChanges_nil b _ w6 HK6.out.cell rfl).mono ?_
  rintro en w7 ⟨rfl, hb⟩
  have HK7 := Lib.hid (HK6.out.below hb)
  have HB7 := Lib.hid (HB6.out.call hb)
  clear hb
  go_wp2_with fail
  refine (stillConflicts_nil b _ w7 HK7.out.cell rfl).mono ?_
  rintro en w8 ⟨rfl, hb⟩
  have HK8 := Lib.hid (HK7.out.below hb)
  have HB8 := Lib.hid (HB7.out.call hb)
  clear hb
  go_wp2_with fail
  refine (stillTrios_nil b _ w8 HK8.out.cell rfl).mono ?_
  rintro en w9 ⟨rfl, hb⟩
  have HK9 := Lib.hid (HK8.out.below hb)
  have HB9 := Lib.hid (HB8.out.call hb)
  clear hb
  go_wp2_with fail
  refine (stillPairs_nil b _ w9 HK9.out.cell rfl).mono ?_
  rintro en w10 ⟨rfl, hb⟩
  have HK10 := Lib.hid (HK9.out.below hb)
  have HB10 := Lib.hid (HB9.out.call hb)
  clear hb
  go_wp2_with fail
  have HC10 : Hid (KeptC w10 b base (.slice sa vs.length sc) (.slice ta us.length tc) vs L) := Lib.hid ⟨HK10.out.cell, HK10.out.bb, HK10.out.os, HK10.out.lv, HK10.out.sv⟩
  refine (putJournals_nil b _ w10 HC10.out.cell rfl).mono ?_
  rintro en w11 ⟨rfl, hb⟩
  have HC11 := Lib.hid (HC10.out.below hb)
  have HB11 := Lib.hid (HB10.out.call hb)
  clear hb
  go_wp2_with fail
  refine (putChanges_nil b _ w11 HC11.out.cell rfl).mono ?_
  rintro en w12 ⟨rfl, hb⟩
  have HC12 := Lib.hid (HC11.out.below hb)
  have HB12 := Lib.hid (HB11.out.call hb)
  clear hb
  go_wp2_with fail
  refine (putTexts_nil b _ w12 HC12.out.cell rfl).mono ?_
  rintro en w13 ⟨rfl, hb⟩
  have HC13 := Lib.hid (HC12.out.below hb)
  have HB13 := Lib.hid (HB12.out.call hb)
  clear hb
  go_wp2_with fail
  refine (putInts_nil b _ w13 HC13.out.cell rfl).mono ?_
  rintro en w14 ⟨rfl, hb⟩
  have HC14 := Lib.hid (HC13.out.below hb)
  have HB14 := Lib.hid (HB13.out.call hb)
  clear hb
  go_wp2_with fail
  refine (putAccounts_nil b _ w14 HC14.out.cell rfl).mono ?_
  rintro en w15 ⟨rfl, hb⟩
  have HC15 := Lib.hid (HC14.out.below hb)
  have HB15 := Lib.hid (HB14.out.call hb)
  clear hb
  go_wp2_with fail
  refine (putBal_any HC15.out.cell rfl HC15.out.os HC15.out.lv HC15.out.notin HC15.out.sv hn HL.out).mono ?_
  rintro en w16 ⟨rfl, hb, M, hM, hML⟩
  have HC16 := Lib.hid (HC15.out.put hb hM)
  have HML := Lib.hid hML
  have HB16 := Lib.hid (HB15.out.trans (hb.mono (fun k _ hk => HIV.out k hk)))
  clear hb hM hML
  go_wp2_with fail
  refine (putLines_nil b _ w16 HC16.out.cell rfl).mono ?_
  rintro en w17 ⟨rfl, hb⟩
  have HC17 := Lib.hid (HC16.out.below hb)
  have HB17 := Lib.hid (HB16.out.call hb)
  clear hb
  go_wp2_with fail
  refine (putConflicts_nil b _ w17 HC17.out.cell rfl).mono ?_
  rintro en w18 ⟨rfl, hb⟩
  have HC18 := Lib.hid (HC17.out.below hb)
  have HB18 := Lib.hid (HB17.out.call hb)
  clear hb
  go_wp2_with fail
  refine (putTrios_nil b _ w18 HC18.out.cell rfl).mono ?_
  rintro en w19 ⟨rfl, hb⟩
  have HC19 := Lib.hid (HC18.out.below hb)
  have HB19 := Lib.hid (HB18.out.call hb)
  clear hb
  go_wp2_with fail
  refine (putPairs_nil b _ w19 HC19.out.cell rfl).mono ?_
  rintro en w20 ⟨rfl, hb⟩
  have HC20 := Lib.hid (HC19.out.below hb)
  have HB20 := Lib.hid (HB19.out.call hb)
  clear hb
  go_wp2_with fail
  refine (growTexts_nil b _ w20 HC20.out.cell rfl).mono ?_
  rintro en w21 ⟨rfl, hb⟩
  have HC21 := Lib.hid (HC20.out.below hb)
  have HB21 := Lib.hid (HB20.out.call hb)
  clear hb
  go_wp2_with fail
  refine (growInts_nil b _ w21 HC21.out.cell rfl).mono ?_
  rintro en w22 ⟨rfl, hb⟩
  have HC22 := Lib.hid (HC21.out.below hb)
  have HB22 := Lib.hid (HB21.out.call hb)
  clear hb
  go_wp2_with fail
  refine (growAccounts_nil b _ w22 HC22.out.cell rfl).mono ?_
  rintro en w23 ⟨rfl, hb⟩
  have HC23 := Lib.hid (HC22.out.below hb)
  have HB23 := Lib.hid (HB22.out.call hb)
  clear hb
  go_wp2_with fail
  refine (growBal_any HC23.out.cell rfl HC23.out.os HC23.out.lv HC23.out.notin HC23.out.sv hn HML.out (Nat.le_trans hbs HB23.out.size)).mono ?_
  rintro en w24 ⟨vo, cur, C, rfl, ho, hrc, hrv, hb, hcl0, hCL⟩
  obtain ⟨ga, gc, rfl, _, _, _⟩ := ho.slice
  have HC24 : Hid (KeptG w24 b base (.slice sa vs.length sc) (.slice ta us.length tc) vs M (.slice ga cur.length gc) cur C) := Lib.hid ⟨(hb.block b (blk_lt HC23.out.cell) HC23.out.notin).trans HC23.out.cell, HC23.out.os.but balV_Free hb (fun k hk ⟨v, hv, hvk⟩ => by
    rcases HC23.out.sv v hv with h1 | h1
    · rw [h1] at hk; cases hk
    · exact h1 (by rw [hk, hvk])), hrv, ho.mono (Nat.le_trans hbs HB23.out.size), hrc⟩
  have HCL := Lib.hid hCL
  have hcl : Hid (cur.length = vs.length) := Lib.hid hcl0
  have HB24 := Lib.hid (HB23.out.trans (hb.mono (fun k _ hk => HIV.out k hk)))
  clear ho hrc hrv hb hCL hcl0
  go_wp2_with fail
  refine (growLines_nil b _ w24 HC24.out.cell rfl).mono ?_
  rintro en w25 ⟨rfl, hb⟩
  have HC25 := Lib.hid (HC24.out.below hb)
  have HB25 := Lib.hid (HB24.out.call hb)
  clear hb
  go_wp2_with fail
  refine (growJournals_nil b _ w25 HC25.out.cell rfl).mono ?_
  rintro en w26 ⟨rfl, hb⟩
  have HC26 := Lib.hid (HC25.out.below hb)
  have HB26 := Lib.hid (HB25.out.call hb)
  clear hb
  go_wp2_with fail
  refine (growChanges_nil b _ w26 HC26.out.cell rfl).mono ?_
  rintro en w27 ⟨rfl, hb⟩
  have HC27 := Lib.hid (HC26.out.below hb)
  have HB27 := Lib.hid (HB26.out.call hb)
  clear hb
  go_wp2_with fail
  refine (growConflicts_nil b _ w27 HC27.out.cell rfl).mono ?_
  rintro en w28 ⟨rfl, hb⟩
  have HC28 := Lib.hid (HC27.out.below hb)
  have HB28 := Lib.hid (HB27.out.call hb)
  clear hb
  go_wp2_with fail
  refine (growTrios_nil b _ w28 HC28.out.cell rfl).mono ?_
  rintro en w29 ⟨rfl, hb⟩
  have HC29 := Lib.hid (HC28.out.below hb)
  have HB29 := Lib.hid (HB28.out.call hb)
  clear hb
  go_wp2_with fail
  refine (growPairs_nil b _ w29 HC29.out.cell rfl).mono ?_
  rintro en w30 ⟨rfl, hb⟩
  have HC30 := Lib.hid (HC29.out.below hb)
  have HB30 := Lib.hid (HB29.out.call hb)
  clear hb
  go_wp2_with fail
  refine (markedTexts_nil w30).mono ?_
  rintro en w31 ⟨rfl, hb⟩
  have HC31 := Lib.hid (HC30.out.below hb)
  have HB31 := Lib.hid (HB30.out.call hb)
  have hz0 : w31.cell? ⟨b, 0, none⟩ = some (.slice none 0 0) := by rw [blk_cells HC31.out.cell]; rfl
  clear hb
  go_wp2_with fail
  refine (markedTexts_nil w31).mono ?_
  rintro en w32 ⟨rfl, hb⟩
  have HC32 := Lib.hid (HC31.out.below hb)
  have HB32 := Lib.hid (HB31.out.call hb)
  clear hb
  go_wp2_with fail
  refine (markedInts_nil w32).mono ?_
  rintro en w33 ⟨rfl, hb⟩
  have HC33 := Lib.hid (HC32.out.below hb)
  have HB33 := Lib.hid (HB32.out.call hb)
  have hz2 : w33.cell? ⟨b, 2, none⟩ = some (.slice none 0 0) := by rw [blk_cells HC33.out.cell]; rfl
  clear hb
  go_wp2_with fail
  refine (markedInts_nil w33).mono ?_
  rintro en w34 ⟨rfl, hb⟩
  have HC34 := Lib.hid (HC33.out.below hb)
  have HB34 := Lib.hid (HB33.out.call hb)
  clear hb
  go_wp2_with fail
  refine (markedAccounts_nil w34).mono ?_
  rintro en w35 ⟨rfl, hb⟩
  have HC35 := Lib.hid (HC34.out.below hb)
  have HB35 := Lib.hid (HB34.out.call hb)
  have hz4 : w35.cell? ⟨b, 4, none⟩ = some (.slice none 0 0) := by rw [blk_cells HC35.out.cell]; rfl
  clear hb
  go_wp2_with fail
  refine (markedAccounts_nil w35).mono ?_
  rintro en w36 ⟨rfl, hb⟩
  have HC36 := Lib.hid (HC35.out.below hb)
  have HB36 := Lib.hid (HB35.out.call hb)
  clear hb
  go_wp2_with fail
  refine (markedBal_any HC36.out.og.sl HC36.out.rg (by have := hcl.out; omega) (fun i l h => by have := HCL.out i l h; exact ⟨this.1, by omega⟩)).mono ?_
  rintro en w37 ⟨rfl, hb⟩
  have HC37 := Lib.hid (HC36.out.below hb)
  have HB37 := Lib.hid (HB36.out.call hb)
  have hz6 : w37.cell? ⟨b, 6, none⟩ = some (.slice sa vs.length sc) := by rw [blk_cells HC37.out.cell]; rfl
  clear hb
  go_wp2_with fail
  refine (markedBal_any HC37.out.os.sl HC37.out.rv hn (fun i l h => by have := HML.out i l h; exact ⟨this.1, by omega⟩)).mono ?_
  rintro en w38 ⟨rfl, hb⟩
  have HC38 := Lib.hid (HC37.out.below hb)
  have HB38 := Lib.hid (HB37.out.call hb)
  clear hb
  go_wp2_with fail
  refine (markedLines_nil w38).mono ?_
  rintro en w39 ⟨rfl, hb⟩
  have HC39 := Lib.hid (HC38.out.below hb)
  have HB39 := Lib.hid (HB38.out.call hb)
  have hz8 : w39.cell? ⟨b, 8, none⟩ = some (.slice none 0 0) := by rw [blk_cells HC39.out.cell]; rfl
  clear hb
  go_wp2_with fail
  refine (markedLines_nil w39).mono ?_
  rintro en w40 ⟨rfl, hb⟩
  have HC40 := Lib.hid (HC39.out.below hb)
  have HB40 := Lib.hid (HB39.out.call hb)
  clear hb
  go_wp2_with fail
  refine (markedJournals_nil w40).mono ?_
  rintro en w41 ⟨rfl, hb⟩
  have HC41 := Lib.hid (HC40.out.below hb)
  have HB41 := Lib.hid (HB40.out.call hb)
  have hz10 : w41.cell? ⟨b, 10, none⟩ = some (.slice none 0 0) := by rw [blk_cells HC41.out.cell]; rfl
  clear hb
  go_wp2_with fail
  refine (markedJournals_nil w41).mono ?_
  rintro en w42 ⟨rfl, hb⟩
  have HC42 := Lib.hid (HC41.out.below hb)
  have HB42 := Lib.hid (HB41.out.call hb)
  clear hb
  go_wp2_with fail
  refine (markedChanges_nil w42).mono ?_
  rintro en w43 ⟨rfl, hb⟩
  have HC43 := Lib.hid (HC42.out.below hb)
  have HB43 := Lib.hid (HB42.out.call hb)
  have hz12 : w43.cell? ⟨b, 12, none⟩ = some (.slice none 0 0) := by rw [blk_cells HC43.out.cell]; rfl
  clear hb
  go_wp2_with fail
  refine (markedChanges_nil w43).mono ?_
  rintro en w44 ⟨rfl, hb⟩
  have HC44 := Lib.hid (HC43.out.below hb)
  have HB44 := Lib.hid (HB43.out.call hb)
  clear hb
  go_wp2_with fail
  refine (markedConflicts_nil w44).mono ?_
  rintro en w45 ⟨rfl, hb⟩
  have HC45 := Lib.hid (HC44.out.below hb)
  have HB45 := Lib.hid (HB44.out.call hb)
  have hz14 : w45.cell? ⟨b, 14, none⟩ = some (.slice none 0 0) := by rw [blk_cells HC45.out.cell]; rfl
  clear hb
  go_wp2_with fail
  refine (markedConflicts_nil w45).mono ?_
  rintro en w46 ⟨rfl, hb⟩
  have HC46 := Lib.hid (HC45.out.below hb)
  have HB46 := Lib.hid (HB45.out.call hb)
  clear hb
  go_wp2_with fail
  refine (markedTrios_nil w46).mono ?_
  rintro en w47 ⟨rfl, hb⟩
  have HC47 := Lib.hid (HC46.out.below hb)
  have HB47 := Lib.hid (HB46.out.call hb)
  have hz16 : w47.cell? ⟨b, 16, none⟩ = some (.slice none 0 0) := by rw [blk_cells HC47.out.cell]; rfl
  clear hb
  go_wp2_with fail
  refine (markedTrios_nil w47).mono ?_
  rintro en w48 ⟨rfl, hb⟩
  have HC48 := Lib.hid (HC47.out.below hb)
  have HB48 := Lib.hid (HB47.out.call hb)
  clear hb
  go_wp2_with fail
  refine (markedPairs_nil w48).mono ?_
  rintro en w49 ⟨rfl, hb⟩
  have HC49 := Lib.hid (HC48.out.below hb)
  have HB49 := Lib.hid (HB48.out.call hb)
  have hz18 : w49.cell? ⟨b, 18, none⟩ = some (.slice none 0 0) := by rw [blk_cells HC49.out.cell]; rfl
  clear hb
  go_wp2_with fail
  refine (markedPairs_nil w49).mono ?_
  rintro en w50 ⟨rfl, hb⟩
  have HC50 := Lib.hid (HC49.out.below hb)
  have HB50 := Lib.hid (HB49.out.call hb)
  clear hb
  go_wp2_with fail
  go_ret
  exact ⟨rfl, HB50.out⟩
end Go.Proofs.YtgggpaacagbmcaaGreat


/- variorumbook: lists that are still to be kept, and those that are, in one law. -/
set_option linter.unusedVariables false
set_option linter.unusedSimpArgs false
namespace Go.Proofs.YtgggpaacagbmcaaGreat
open Go.RowKit Go.Maps Go.Deep

abbrev KL := List (Value × List (Int × Int))
/-- a Book in block b: n lists, and those of done; pend: lists that may be kept; fs: other blocks of the call's own -/
structure Pend0 (w : World) (b n : Nat) (fs : List Nat) (done pend : KL) (s t : Value) (vs us : List Value) (L : List (List (Int × Int))) : Prop where
  k : KeptB w b (b + 1) s t vs us L
  len : vs.length = n + done.length
  few : ∀ (i : Nat) (l : List (Int × Int)), L[i]? = some l → l.length ≤ 10000
  dn : ∀ p ∈ done, ∃ i : Nat, vs[i]? = some p.1 ∧ L[i]? = some p.2
  own : ∀ p ∈ pend, OwnL tBal w (b + 1) p.1 p.2 ∧ Out s t vs us p.1 ∧ p.2.length ≤ 10000
  ap : pend.Pairwise (fun p q => ApartV p.1 q.1)
  fo : ∀ k ∈ fs, k < w.heap.size ∧ k ≠ b ∧ some k ≠ s.ownBlock ∧ some k ≠ t.ownBlock
def Pend (w : World) (b n : Nat) (fs : List Nat) (done pend : KL) : Prop := ∃ s t vs us L, Pend0 w b n fs done pend s t vs us L
theorem Pend0.below {w w' : World} {b n : Nat} {fs : List Nat} {done pend : KL} {s t : Value} {vs us : List Value} {L : List (List (Int × Int))} (h : Pend0 w b n fs done pend s t vs us L) (hb : Below w.heap.size w w') : Pend0 w' b n fs done pend s t vs us L :=
  ⟨⟨blk_below h.k.cell hb, h.k.bb, h.k.os.below hb, h.k.ot.below hb, h.k.lv.below hb, h.k.lu.below hb, h.k.st, h.k.sv, h.k.su, h.k.tv, h.k.tu, h.k.vu⟩, h.len, h.few, h.dn, fun p hp => ⟨(h.own p hp).1.below hb, (h.own p hp).2⟩, h.ap, fun k hk => by have h1 := h.fo k hk; have := hb.size; exact ⟨by omega, h1.2⟩⟩
theorem Pend.below {w w' : World} {b n : Nat} {fs : List Nat} {done pend : KL} (h : Pend w b n fs done pend) (hb : Below w.heap.size w w') : Pend w' b n fs done pend := by
  obtain ⟨s, t, vs, us, L, h⟩ := h
  exact ⟨s, t, vs, us, L, h.below hb⟩
/-- new lists -/
theorem Pend.begin {w w' : World} {b n : Nat} {pend : KL} (h : Pend w b n [] [] []) (hb : Below w.heap.size w w') (ho : ∀ p ∈ pend, OwnL tBal w' w.heap.size p.1 p.2 ∧ p.2.length ≤ 10000) (ha : pend.Pairwise (fun p q => ApartV p.1 q.1)) : Pend w' b n [] [] pend := by
  obtain ⟨s, t, vs, us, L, h⟩ := h
  have hbs : b + 1 ≤ w.heap.size := blk_lt h.k.cell
  refine ⟨s, t, vs, us, L, ⟨blk_below h.k.cell hb, h.k.bb, h.k.os.below hb, h.k.ot.below hb, h.k.lv.below hb, h.k.lu.below hb, h.k.st, h.k.sv, h.k.su, h.k.tv, h.k.tu, h.k.vu⟩, h.len, h.few, h.dn, fun p hp => ?_, ha, by simp⟩
  obtain ⟨h1, h2⟩ := ho p hp
  exact ⟨h1.mono hbs, h.k.fresh (fun k hk => (h1.lt k hk).1), h2⟩
theorem Pend.again {w : World} {b n : Nat} {fs : List Nat} {done : KL} (h : Pend w b n fs done []) : Pend w b (n + done.length) [] [] [] := by
  obtain ⟨s, t, vs, us, L, h⟩ := h
  exact ⟨s, t, vs, us, L, ⟨h.k, by have := h.len; simpa using this, h.few, by simp, by simp, List.Pairwise.nil, by simp⟩⟩
/-- a block of the call's own -/
theorem Pend.alloc {w : World} {b n : Nat} {fs : List Nat} {done pend : KL} (h : Pend w b n fs done pend) (o : Obj) : Pend (w.alloc o) b n (w.heap.size :: fs) done pend := by
  have hb : Below w.heap.size w (w.alloc o) := (Below.refl _ _).alloc (Nat.le_refl _) o
  obtain ⟨s, t, vs, us, L, h⟩ := h
  have h1 := h.below hb
  have hbl := blk_lt h.k.cell
  refine ⟨s, t, vs, us, L, ⟨h1.k, h1.len, h1.few, h1.dn, h1.own, h1.ap, fun k hk => ?_⟩⟩
  rcases List.mem_cons.1 hk with rfl | hk
  · exact ⟨by simp, by omega, fun e => by have := (h.k.os.lt _ e.symm).2; omega, fun e => by have := (h.k.ot.lt _ e.symm).2; omega⟩
  · exact h1.fo k hk
theorem Pend.read {w : World} {b n : Nat} {fs : List Nat} {done pend : KL} (h : Pend w b n fs done pend) {p : Value × List (Int × Int)} (hp : p ∈ done) : OwnL tBal w (b + 1) p.1 p.2 := by
  obtain ⟨s, t, vs, us, L, h⟩ := h
  obtain ⟨i, h1, h2⟩ := h.dn p hp
  exact h.k.lv.own i _ _ h1 h2
theorem Pend.lt {w : World} {b n : Nat} {fs : List Nat} {done pend : KL} (h : Pend w b n fs done pend) : b < w.heap.size := by
  obtain ⟨s, t, vs, us, L, h⟩ := h
  exact blk_lt h.k.cell

/-- a list is kept -/
theorem keep_bal {w : World} {b n : Nat} {fs : List Nat} {done pend : KL} {xa : Option Addr} {xc : Nat} {l : List (Int × Int)} (h : Pend w b n fs done ((.slice xa l.length xc, l) :: pend)) (hn : n + done.length ≤ 100) :
    Calls Tryz.prog 13 #[.pointer (some ⟨b, 0, none⟩), .slice xa l.length xc] w fun e w' => e = .returned (.tuple #[]) ∧ But (fun k => b ≤ k) w w' ∧ Pend w' b n fs (done ++ [(.slice xa l.length xc, l)]) pend ∧ ∀ k ∈ fs, w'.heap[k]? = w.heap[k]? := by
  obtain ⟨s, t, vs, us, L, h⟩ := h
  obtain ⟨h1, h2, h3⟩ := h.own _ (List.mem_cons_self ..)
  have hlv := h.k.lv.len
  refine (kbal_any h.k h1 h2.1 h2.2.1 h2.2.2.1 h2.2.2.2 (by have := h.len; omega) (by simp only at h3; omega) (blk_lt h.k.cell)).mono ?_
  rintro en w' ⟨rfl, hbu, s', t', x', hk, hf⟩
  have hap := List.pairwise_cons.1 h.ap
  refine ⟨rfl, hbu, ⟨s', t', _, _, _, ⟨hk, by have := h.len; simp; omega, fun i m hm => ?_, fun p hp => ?_, fun p hp => ?_, hap.2, fun k hk => ?_⟩⟩, fun k hk => hf.keep k (h.fo k hk).1 (h.fo k hk).2.1 (h.fo k hk).2.2.1 (h.fo k hk).2.2.2⟩
  · rw [List.getElem?_append] at hm
    split at hm
    · exact h.few i m hm
    · rcases List.getElem?_eq_some_iff.1 hm with ⟨hi, rfl⟩
      simp at hi
      have : i - L.length = 0 := by omega
      simpa [this] using h3
  · rcases List.mem_append.1 hp with hp | hp
    · obtain ⟨i, h4, h5⟩ := h.dn p hp
      have hi := (List.getElem?_eq_some_iff.1 h4).1
      exact ⟨i, by rw [List.getElem?_append_left hi]; exact h4, by rw [List.getElem?_append_left (by omega)]; exact h5⟩
    · simp only [List.mem_singleton] at hp
      subst hp
      exact ⟨vs.length, by simp, by rw [hlv]; simp⟩
  · obtain ⟨h4, h5, h6⟩ := h.own p (List.mem_cons_of_mem _ hp)
    exact ⟨hf.own bal_Free h4 h.k.bb h5.1 h5.2.1, h5.next hf (fun k hk => (h4.lt k hk).2) (hap.1 p hp), h6⟩
  · obtain ⟨g1, g2, g3, g4⟩ := h.fo k hk
    refine ⟨Nat.lt_of_lt_of_le g1 hf.size, g2, fun e => ?_, fun e => ?_⟩
    · rcases hf.sn with h7 | h7
      · exact g3 (e.trans h7)
      · have := h7 k e.symm
        omega
    · rcases hf.tn with h7 | h7
      · exact g4 (e.trans h7)
      · have := h7 k e.symm
        omega
/-- an empty Book -/
theorem pend_new {w : World} {b : Nat} (h : w.heap[b]? = some (.cells (bookB (.slice none 0 0) (.slice none 0 0)) 48 (0, 0))) : Pend w b 0 [] [] [] := by
  have hlots : Lots tBal w (b + 1) [] [] := ⟨rfl, fun i v l hv _ => by simp at hv, fun i j u v _ hu _ => by simp at hu⟩
  exact ⟨_, _, [], [], [], ⟨⟨h, Nat.lt_succ_self b, OwnL.nil _ _, OwnL.nil _ _, hlots, hlots, apart_none _, by simp, by simp, by simp, by simp, by simp⟩, rfl, fun i l h => by simp at h, by simp, by simp, List.Pairwise.nil, by simp⟩⟩
end Go.Proofs.YtgggpaacagbmcaaGreat


/- variorumbook: Apart, told of Pend. -/
set_option linter.unusedVariables false
set_option linter.unusedSimpArgs false
namespace Go.Proofs.YtgggpaacagbmcaaGreat
open Go.RowKit Go.Maps Go.Deep

theorem kapart_pend {w : World} {b n : Nat} (h : Pend w b n [] [] []) (hn : n ≤ 1000) : Calls Tryz.prog 17 #[.pointer (some ⟨b, 0, none⟩)] w fun e w' => e = .returned (.bool true) ∧ But (fun k => b ≤ k) w w' := by
  obtain ⟨s, t, vs, us, L, h⟩ := h
  have := h.len
  exact kapart_any h.k (by simp at this; omega) (fun i l hl => by have := h.few i l hl; omega) (blk_lt h.k.cell)
end Go.Proofs.YtgggpaacagbmcaaGreat
