/- variorumbook: Book.Balances, walked. -/
import Derived.Test.YtfnmlpnncjhnmaaGreatX39TrialTells
import Derived.Test.YtfnmlpnncjhnmaaGreatX36TrialTells
import Derived.Test.YtfnmlpnncjhnmaaGreatX44TrialTells
set_option linter.unusedVariables false
set_option linter.unusedSimpArgs false
namespace Go.Proofs.YtfnmlpnncjhnmaaGreat
open Go.RowKit Go.Maps Go.Deep

theorem kbal_done {w wx w5 w6 : World} {b base gb gd : Nat} {s t s' x x' : Value} {vs us : List Value} {L : List (List (Int × Int))} {l : List (Int × Int)} (h : KeptB w b base s t vs us L) (hx : OwnL tBal w base x l)
    (ha : ApartV s x ∧ ApartV t x ∧ (∀ v ∈ vs, ApartV v x) ∧ ∀ v ∈ us, ApartV v x) (hbs : base ≤ w.heap.size) (F1 : Fr w wx b s) (B1 : But (fun k => b ≤ k) w wx) (os : OwnL tBalV wx base s' (vs ++ [x])) (as_ : s'.ownBlock = s.ownBlock ∨ ∀ k, s'.ownBlock = some k → w.heap.size ≤ k)
    (ht : OwnL tBalV wx base t us) (hb5 : Below wx.heap.size wx w5) (ho5 : OwnL tBal w5 wx.heap.size x' l) (hg : (w5.alloc (.cells #[x'] 32)).grownBy w6 t.ownBlock) (ho6 : OwnL tBalV w6 base (.slice (some ⟨gb, 0, none⟩) (us.length + 1) gd) (us ++ [x']))
    (hat : (Value.slice (some ⟨gb, 0, none⟩) (us.length + 1) gd).ownBlock = t.ownBlock ∨ (Value.slice (some ⟨gb, 0, none⟩) (us.length + 1) gd).ownBlock = some (w5.alloc (.cells #[x'] 32)).heap.size) (hc : w6.heap[b]? = some (.cells (bookB s' t) 48 (0, 0))) :
    (Ending.returned (.tuple #[]) = .returned (.tuple #[])) ∧ But (fun k => b ≤ k) w (w6.setCell ⟨b, 7, none⟩ (.slice (some ⟨gb, 0, none⟩) (us.length + 1) gd)) ∧ ∃ s' t' x', KeptB (w6.setCell ⟨b, 7, none⟩ (.slice (some ⟨gb, 0, none⟩) (us.length + 1) gd)) b base s' t' (vs ++ [x]) (us ++ [x']) (L ++ [l]) ∧ KFr w (w6.setCell ⟨b, 7, none⟩ (.slice (some ⟨gb, 0, none⟩) (us.length + 1) gd)) b s t s' t' x' := by
  have hs5 := hb5.size
  have hs1 := F1.1
  have hs6 := hg.size
  simp at hs6
  have hbt : ∀ k, t.ownBlock = some k → base ≤ k ∧ k < wx.heap.size := ht.lt
  have hbb := h.bb
  have F2 : Fr wx (w6.setCell ⟨b, 7, none⟩ (.slice (some ⟨gb, 0, none⟩) (us.length + 1) gd)) b t := ⟨by simp; omega, fun k hk hkb hks => (Below.heap_setCell w6 ⟨b, 7, none⟩ _ k hkb).trans ((hg.block k (by simp; omega) hks).trans ((Below.heap_alloc w5 _ k (by omega)).trans (hb5.block k hk)))⟩
  have hox : OwnL tBal (w6.setCell ⟨b, 7, none⟩ (.slice (some ⟨gb, 0, none⟩) (us.length + 1) gd)) base x' l := by
    refine (ho5.mono (by omega)).keepF bal_Free (fun k hk => ?_)
    obtain ⟨h1, h2⟩ := ho5.lt k hk
    exact (Below.heap_setCell w6 ⟨b, 7, none⟩ _ k (by show k ≠ b; omega)).trans ((hg.block k (by simp; omega) (fun e => by have := hbt k e.symm; omega)).trans (Below.heap_alloc w5 _ k h2))
  refine ⟨rfl, ?_, s', _, x', ⟨h.add hx ha.1 ha.2.1 ha.2.2.1 ha.2.2.2 F1 os as_ F2 hox (fun k hk => (ho5.lt k hk).1) (ho6.keepF balV_Free (fun k hk => Below.heap_setCell w6 ⟨b, 7, none⟩ _ k (by have := (ho6.lt k hk).1; show k ≠ b; omega))) ?_ ?_ ?_, ⟨by simp; omega, fun k hk hkb hks hkt => (F2.2 k (by omega) hkb hkt).trans (F1.2 k hk hkb hks), as_, ?_, fun k hk => by have := (ho5.lt k hk).1; omega⟩⟩⟩
  · refine But.setCell (p := ⟨b, 7, none⟩) ((((B1.call hb5).alloc _)).grown hg (fun k hk => .inl (by have := hbt k hk; omega))) (.inl (Nat.le_refl _)) _
  · refine hat.imp id (fun e k hk => ?_)
    rw [e] at hk
    injection hk with hk
    simp at hk
    omega
  · rcases hat with e | e
    · exact (apart_new (n := wx.heap.size) (fun k hk => (ho5.lt k hk).1) (fun k hk => (hbt k (by rw [← e]; exact hk)).2)).symm
    · exact apart_new (n := w5.heap.size) (fun k hk => by rw [e] at hk; injection hk with hk; simp at hk; omega) (fun k hk => (ho5.lt k hk).2)
  · have := blk_set hc 7 (.slice (some ⟨gb, 0, none⟩) (us.length + 1) gd)
    simpa [bookB] using this
  · refine hat.imp id (fun e k hk => ?_)
    rw [e] at hk
    injection hk with hk
    simp at hk
    omega

set_option maxHeartbeats 16000000 in
set_option maxRecDepth 100000 in
theorem kbal_any {w : World} {b base : Nat} {s t : Value} {vs us : List Value} {L : List (List (Int × Int))} (h : KeptB w b base s t vs us L) {xa : Option Addr} {xc : Nat} {l : List (Int × Int)} (hx : OwnL tBal w base (.slice xa l.length xc) l)
    (xs : ApartV s (.slice xa l.length xc)) (xt : ApartV t (.slice xa l.length xc)) (xv : ∀ v ∈ vs, ApartV v (.slice xa l.length xc)) (xu : ∀ v ∈ us, ApartV v (.slice xa l.length xc)) (hn : vs.length ≤ 100) (hl : l.length ≤ 100000) (hbs : base ≤ w.heap.size) :
    Calls Tryz.prog 13 #[.pointer (some ⟨b, 0, none⟩), .slice xa l.length xc] w fun e w' => e = .returned (.tuple #[]) ∧ But (fun k => b ≤ k) w w' ∧ ∃ s' t' x', KeptB w' b base s' t' (vs ++ [.slice xa l.length xc]) (us ++ [x']) (L ++ [l]) ∧ KFr w w' b s t s' t' x' := by
  obtain ⟨j0, hj, hy0, hy1, hy2⟩ := info_parts infoBalV
  obtain ⟨sa, sc, rfl, _, _, _⟩ := h.os.slice
  obtain ⟨ta, tc, rfl, _, _, _⟩ := h.ot.slice
  have hun : us.length = vs.length := by rw [h.lu.len, h.lv.len]
  have HUN := Lib.hid hun
  have H := Lib.hid h
  have HX := Lib.hid hx
  have HXS := Lib.hid (And.intro xs (And.intro xt (And.intro xv xu)))
  have hbl := blk_lt h.cell
  have hbb := Lib.hid h.bb
  have hz6 : w.cell? ⟨b, 6, none⟩ = some (.slice sa vs.length sc) := by rw [blk_cells h.cell]; rfl
  have h250 : (vs.length : Int) < 250 := by omega
  have HOA : Hid (OwnL tBalV (w.alloc (.cells #[.slice xa l.length xc] 32)) base (.slice sa vs.length sc) vs) := Lib.hid (h.os.alloc _)
  have HSV : Hid (Sl tBalV (w.alloc (.cells #[.slice xa l.length xc] 32)) (fun k => some k ≠ (Value.slice sa vs.length sc).ownBlock ∧ k < (w.alloc (.cells #[.slice xa l.length xc] 32)).heap.size) (some ⟨w.heap.size, 0, none⟩) [.slice xa l.length xc]) := Lib.hid (sl_oneV (blk_new w _) ⟨fun e => by have := (h.os.lt _ e.symm).2; omega, by simp⟩)
  have hba : (w.alloc (.cells #[.slice xa l.length xc] 32)).heap[b]? = some (.cells (bookB (.slice sa vs.length sc) (.slice ta us.length tc)) 48 (0, 0)) := blk_alloc h.cell _
  have HBA := Lib.hid hba
  have HSB : Hid (∀ k, (Value.slice sa vs.length sc).ownBlock = some k → b < k) := Lib.hid (fun k hk => Nat.lt_of_lt_of_le h.bb (h.os.lt k hk).1)
  clear h hx xs xt xv xu hun hba
  go_enter Tryz.func13, Tryz.ntmps13
  go_wp2_with (at_builtin; refine wp_app (T := tBalV) rfl _ _ 40 rfl j0 (.slice none 0 0) 24 Tryz.underlying40 hj hy0 hy1 hy2 rfl (by decide) balV_one base (.slice sa vs.length sc) vs rfl HOA.out ⟨w.heap.size, 0, none⟩ 1 [.slice xa l.length xc] rfl HSV.out (by unfold maxLen; simp; omega) (by simp; omega) (by simp; omega) ?_; intro v3 w3 hown hg _ hat; have HCB := Lib.hid ((hg.block b (by simp; omega) (fun e => by have := HSB.out b e.symm; omega)).trans HBA.out); obtain ⟨ga, gc, rfl, _⟩ := form_snoc hown; have hz36 : w3.cell? ⟨b, 6, none⟩ = some (.slice sa vs.length sc) := (by rw [blk_cells HCB.out]; rfl); have hf36 := blk_frz HCB.out 6; have HO3 := Lib.hid hown; have HG3 := Lib.hid hg; have HAT3 := Lib.hid hat; clear hown hg hat)
  refine abs_world (S := fun wx => wx.heap[b]? = some (.cells (bookB (.slice (some ⟨ga, 0, none⟩) (vs.length + 1) gc) (.slice ta us.length tc)) 48 (0, 0)) ∧ OwnL tBalV wx base (.slice (some ⟨ga, 0, none⟩) (vs.length + 1) gc) (vs ++ [.slice xa l.length xc]) ∧ Fr w wx b (.slice sa vs.length sc) ∧ But (fun k => b ≤ k) w wx ∧ OwnL tBalV wx base (.slice ta us.length tc) us ∧ OwnL tBal wx base (.slice xa l.length xc) l) ?_ (by
    have hFr : Fr w (w3.setCell ⟨b, 6, none⟩ (.slice (some ⟨ga, 0, none⟩) (vs.length + 1) gc)) b (.slice sa vs.length sc) := ⟨by have := HG3.out.size; simp at this ⊢; omega, fun k hk hkb hks => (Below.heap_setCell w3 ⟨b, 6, none⟩ _ k hkb).trans ((HG3.out.block k (by simp; omega) hks).trans (Below.heap_alloc w _ k hk))⟩
    have hBu : But (fun k => b ≤ k) w (w3.setCell ⟨b, 6, none⟩ (.slice (some ⟨ga, 0, none⟩) (vs.length + 1) gc)) := But.setCell (p := ⟨b, 6, none⟩) ((((But.refl (fun k => b ≤ k) w).alloc _)).grown HG3.out (fun k hk => .inl (by have := HSB.out k hk; omega))) (.inl (Nat.le_refl _)) _
    refine ⟨by have := blk_set HCB.out 6 (.slice (some ⟨ga, 0, none⟩) (vs.length + 1) gc); simpa [bookB] using this, HO3.out.keepF balV_Free (fun k hk => Below.heap_setCell w3 ⟨b, 6, none⟩ _ k (by have := (HO3.out.lt k hk).1; have := hbb.out; show k ≠ b; omega)), hFr, hBu, H.out.ot.fr balV_Free hbb.out hFr H.out.st, HX.out.fr bal_Free hbb.out hFr HXS.out.1⟩)
  rintro wx ⟨hcx, hsx, hfx, hbx, htx, hxx⟩
  have HCX := Lib.hid hcx
  have HSX := Lib.hid hsx
  have HFX := Lib.hid hfx
  have HBX := Lib.hid hbx
  have HTX := Lib.hid htx
  have HXX := Lib.hid hxx
  have hz7 : wx.cell? ⟨b, 7, none⟩ = some (.slice ta us.length tc) := by rw [blk_cells hcx]; rfl
  have hf7 := blk_frz hcx 7
  have hlx := blk_lt hcx
  have h63 : us.length + 1 ≤ maxLen := by have := HUN.out; unfold maxLen; omega
  have hby : (us.length + 1) * 24 ≤ 140737488355328 := by have := HUN.out; omega
  have hbse := hbx.size
  clear hcx hsx hfx hbx htx hxx hz36 hf36
  go_region_law (first
    | (refine step_call rfl 47 #[.slice xa l.length xc] (by simp [execOp, resolve, invoke, Act.eval, Act.put, go_sem]) ?_; refine (cpBal_any (w := wx.drew) (HXX.out.keep (Nat.le_refl _) (fun _ _ => rfl)) hl).mono ?_; rintro en w5 ⟨v5, rfl, ho, hb⟩; refine ⟨_, rfl, ?_⟩; obtain ⟨ca, cc, rfl, _⟩ := ho.slice; have HB5 : Hid (Below wx.heap.size wx w5) := Lib.hid ((Below.drew (Below.refl _ wx)).trans hb); have HO5 : Hid (OwnL tBal w5 wx.heap.size (.slice ca l.length cc) l) := Lib.hid ho; have HC5 := Lib.hid (blk_below HCX.out HB5.out); have hz57 : w5.cell? ⟨b, 7, none⟩ = some (.slice ta us.length tc) := (by rw [blk_cells HC5.out]; rfl); have hf57 := blk_frz HC5.out 7; have hl5 := blk_lt HC5.out; have hs5 := HB5.out.size; have HT5 : Hid (OwnL tBalV (w5.alloc (.cells #[.slice ca l.length cc] 32)) base (.slice ta us.length tc) us) := Lib.hid ((HTX.out.below HB5.out).alloc _); have HV5 : Hid (Sl tBalV (w5.alloc (.cells #[.slice ca l.length cc] 32)) (fun k => some k ≠ (Value.slice ta us.length tc).ownBlock ∧ k < (w5.alloc (.cells #[.slice ca l.length cc] 32)).heap.size) (some ⟨w5.heap.size, 0, none⟩) [.slice ca l.length cc]) := Lib.hid (sl_oneV (blk_new w5 _) ⟨fun e => by have := (HTX.out.lt _ e.symm).2; omega, by simp⟩); clear hb ho)
    | (refine step_app (T := tBalV) rfl (.tmp 24) (.tmp 27) 40 rfl j0 (.slice none 0 0) 24 Tryz.underlying40 hj hy0 hy1 hy2 rfl (by decide) balV_one base (.slice ta us.length tc) us (by simp [Act.eval, Act.put]) HT5.out ⟨w5.heap.size, 0, none⟩ 1 [.slice ca l.length cc] (by simp [Act.eval, Act.put]) HV5.out h63 hby (by simp; omega) ?_; intro v6 w6 hown hg hat; have HC6 := Lib.hid ((hg.block b (by simp; omega) (fun e => by have := (HTX.out.lt _ e.symm).1; have := hbb.out; omega)).trans (blk_alloc HC5.out _)); obtain ⟨gb, gd, rfl, _⟩ := form_snoc hown; have hz67 : w6.cell? ⟨b, 7, none⟩ = some (.slice ta us.length tc) := (by rw [blk_cells HC6.out]; rfl); have hf67 := blk_frz HC6.out 7; have HO6 := Lib.hid hown; have HG6 := Lib.hid hg; have HAT6 := Lib.hid hat; clear hown hg hat))
  all_goals
    go_wp2_with fail
    go_end0
    exact kbal_done H.out HX.out HXS.out hbs HFX.out HBX.out HSX.out (HAT3.out.imp id (fun e k hk => by rw [e] at hk; injection hk with hk; simp at hk; omega)) HTX.out HB5.out HO5.out HG6.out HO6.out HAT6.out HC6.out
end Go.Proofs.YtfnmlpnncjhnmaaGreat


/- variorumbook: Book.Apart where balances alone are kept. Printed by mkapart.py. -/
set_option linter.unusedVariables false
set_option linter.unusedSimpArgs false
namespace Go.Proofs.YtfnmlpnncjhnmaaGreat
open Go.RowKit Go.Maps Go.Deep

theorem KeptB.below {w w' : World} {b base : Nat} {s t : Value} {vs us : List Value} {L : List (List (Int × Int))} (h : KeptB w b base s t vs us L) (hb : Below w.heap.size w w') : KeptB w' b base s t vs us L :=
  ⟨blk_below h.cell hb, h.bb, h.os.below hb, h.ot.below hb, h.lv.below hb, h.lu.below hb, h.st, h.sv, h.su, h.tv, h.tu, h.vu⟩
/-- the Book without the copies -/
structure KeptC (w : World) (b base : Nat) (s t : Value) (vs : List Value) (L : List (List (Int × Int))) : Prop where
  cell : w.heap[b]? = some (.cells (bookB s t) 48 (0, 0))
  bb : b < base
  os : OwnL tBalV w base s vs
  lv : Lots tBal w base vs L
  sv : ∀ v ∈ vs, ApartV s v
section
variable {w w' : World} {b base : Nat} {s t : Value} {vs : List Value} {L : List (List (Int × Int))}
theorem KeptC.below (h : KeptC w b base s t vs L) (hb : Below w.heap.size w w') : KeptC w' b base s t vs L :=
  ⟨blk_below h.cell hb, h.bb, h.os.below hb, h.lv.below hb, h.sv⟩
theorem KeptC.notin (h : KeptC w b base s t vs L) : ¬ InV vs b := fun ⟨v, hv, hk⟩ => by
  have := (h.lv.lt hv b hk).1
  have := h.bb
  omega
theorem KeptC.put {C : List (List (Int × Int))} (h : KeptC w b base s t vs L) (hb : But (InV vs) w w') (hC : Lots tBal w' base vs C) : KeptC w' b base s t vs C :=
  ⟨(hb.block b (blk_lt h.cell) h.notin).trans h.cell, h.bb, h.os.but balV_Free hb (fun k hk ⟨v, hv, hvk⟩ => by
    rcases h.sv v hv with h1 | h1
    · rw [h1] at hk; cases hk
    · exact h1 (by rw [hk, hvk])), hC, h.sv⟩
end
/-- all of it grown: the Book's lists read, the grown ones read -/
structure KeptG (w : World) (b base : Nat) (s t : Value) (vs : List Value) (L : List (List (Int × Int))) (vo : Value) (cur : List Value) (C : List (List (Int × Int))) : Prop where
  cell : w.heap[b]? = some (.cells (bookB s t) 48 (0, 0))
  os : OwnL tBalV w base s vs
  rv : Reads w vs L
  og : OwnL tBalV w base vo cur
  rg : Reads w cur C
theorem KeptG.below {w w' : World} {b base : Nat} {s t vo : Value} {vs cur : List Value} {L C : List (List (Int × Int))} (h : KeptG w b base s t vs L vo cur C) (hb : Below w.heap.size w w') : KeptG w' b base s t vs L vo cur C :=
  ⟨blk_below h.cell hb, h.os.below hb, h.rv.keep hb, h.og.below hb, h.rg.keep hb⟩

set_option maxHeartbeats 16000000 in
set_option maxRecDepth 100000 in
theorem kapart_any {w : World} {b base : Nat} {s t : Value} {vs us : List Value} {L : List (List (Int × Int))} (h : KeptB w b base s t vs us L) (hn : vs.length ≤ 1000) (hL : ∀ (i : Nat) (l : List (Int × Int)), L[i]? = some l → l.length ≤ 100000) (hbs : base ≤ w.heap.size) :
    Calls Tryz.prog 19 #[.pointer (some ⟨b, 0, none⟩)] w fun e w' => e = .returned (.bool true) ∧ But (fun k => b ≤ k) w w' := by
  obtain ⟨sa, sc, rfl, _, _, _⟩ := h.os.slice
  obtain ⟨ta, tc, rfl, _, _, _⟩ := h.ot.slice
  have HL := Lib.hid hL
  have hbb := Lib.hid h.bb
  have HIV : Hid (∀ k, InV vs k → b ≤ k) := Lib.hid (fun k ⟨v, hv, hk⟩ => by have := (h.lv.lt hv k hk).1; have := h.bb; omega)
  have HK0 := Lib.hid h
  have HB0 : Hid (But (fun k => b ≤ k) w w) := Lib.hid (But.refl _ _)
  clear h hL
  go_enter Tryz.func19, Tryz.ntmps19
  go_wp2_with fail
  refine (stillTexts_nil b _ w HK0.out.cell rfl).mono ?_
  rintro en w1 ⟨rfl, hb⟩
  have HK1 := Lib.hid (HK0.out.below hb)
  have HB1 := Lib.hid (HB0.out.call hb)
  clear hb
  go_wp2_with fail
  refine (stillInts_nil b _ w1 HK1.out.cell rfl).mono ?_
  rintro en w2 ⟨rfl, hb⟩
  have HK2 := Lib.hid (HK1.out.below hb)
  have HB2 := Lib.hid (HB1.out.call hb)
  clear hb
  go_wp2_with fail
  refine (stillAccounts_nil b _ w2 HK2.out.cell rfl).mono ?_
  rintro en w3 ⟨rfl, hb⟩
  have HK3 := Lib.hid (HK2.out.below hb)
  have HB3 := Lib.hid (HB2.out.call hb)
  clear hb
  go_wp2_with fail
  refine (stillBal_any HK3.out.cell rfl rfl HK3.out.os.sl HK3.out.ot.sl HK3.out.lv.reads HK3.out.lu.reads hn (fun i l h => by have := HL.out i l h; unfold maxLen; omega)).mono ?_
  rintro en w4 ⟨rfl, hb⟩
  have HK4 := Lib.hid (HK3.out.below hb)
  have HB4 := Lib.hid (HB3.out.call hb)
  clear hb
  go_wp2_with fail
  refine (stillLines_nil b _ w4 HK4.out.cell rfl).mono ?_
  rintro en w5 ⟨rfl, hb⟩
  have HK5 := Lib.hid (HK4.out.below hb)
  have HB5 := Lib.hid (HB4.out.call hb)
  clear hb
  go_wp2_with fail
  refine (stillJournals_nil b _ w5 HK5.out.cell rfl).mono ?_
  rintro en w6 ⟨rfl, hb⟩
  have HK6 := Lib.hid (HK5.out.below hb)
  have HB6 := Lib.hid (HB5.out.call hb)
  clear hb
  go_wp2_with fail
  refine (stillChanges_nil b _ w6 HK6.out.cell rfl).mono ?_
  rintro en w7 ⟨rfl, hb⟩
  have HK7 := Lib.hid (HK6.out.below hb)
  have HB7 := Lib.hid (HB6.out.call hb)
  clear hb
  go_wp2_with fail
  refine (stillConflicts_nil b _ w7 HK7.out.cell rfl).mono ?_
  rintro en w8 ⟨rfl, hb⟩
  have HK8 := Lib.hid (HK7.out.below hb)
  have HB8 := Lib.hid (HB7.out.call hb)
  clear hb
  go_wp2_with fail
  refine (stillTrios_nil b _ w8 HK8.out.cell rfl).mono ?_
  rintro en w9 ⟨rfl, hb⟩
  have HK9 := Lib.hid (HK8.out.below hb)
  have HB9 := Lib.hid (HB8.out.call hb)
  clear hb
  go_wp2_with fail
  refine (stillPairs_nil b _ w9 HK9.out.cell rfl).mono ?_
  rintro en w10 ⟨rfl, hb⟩
  have HK10 := Lib.hid (HK9.out.below hb)
  have HB10 := Lib.hid (HB9.out.call hb)
  clear hb
  go_wp2_with fail
  have HC10 : Hid (KeptC w10 b base (.slice sa vs.length sc) (.slice ta us.length tc) vs L) := Lib.hid ⟨HK10.out.cell, HK10.out.bb, HK10.out.os, HK10.out.lv, HK10.out.sv⟩
  refine (putJournals_nil b _ w10 HC10.out.cell rfl).mono ?_
  rintro en w11 ⟨rfl, hb⟩
  have HC11 := Lib.hid (HC10.out.below hb)
  have HB11 := Lib.hid (HB10.out.call hb)
  clear hb
  go_wp2_with fail
  refine (putChanges_nil b _ w11 HC11.out.cell rfl).mono ?_
  rintro en w12 ⟨rfl, hb⟩
  have HC12 := Lib.hid (HC11.out.below hb)
  have HB12 := Lib.hid (HB11.out.call hb)
  clear hb
  go_wp2_with fail
  refine (putTexts_nil b _ w12 HC12.out.cell rfl).mono ?_
  rintro en w13 ⟨rfl, hb⟩
  have HC13 := Lib.hid (HC12.out.below hb)
  have HB13 := Lib.hid (HB12.out.call hb)
  clear hb
  go_wp2_with fail
  refine (putInts_nil b _ w13 HC13.out.cell rfl).mono ?_
  rintro en w14 ⟨rfl, hb⟩
  have HC14 := Lib.hid (HC13.out.below hb)
  have HB14 := Lib.hid (HB13.out.call hb)
  clear hb
  go_wp2_with fail
  refine (putAccounts_nil b _ w14 HC14.out.cell rfl).mono ?_
  rintro en w15 ⟨rfl, hb⟩
  have HC15 := Lib.hid (HC14.out.below hb)
  have HB15 := Lib.hid (HB14.out.call hb)
  clear hb
  go_wp2_with fail
  refine (putBal_any HC15.out.cell rfl HC15.out.os HC15.out.lv HC15.out.notin HC15.out.sv hn HL.out).mono ?_
  rintro en w16 ⟨rfl, hb, M, hM, hML⟩
  have HC16 := Lib.hid (HC15.out.put hb hM)
  have HML := Lib.hid hML
  have HB16 := Lib.hid (HB15.out.trans (hb.mono (fun k _ hk => HIV.out k hk)))
  clear hb hM hML
  go_wp2_with fail
  refine (putLines_nil b _ w16 HC16.out.cell rfl).mono ?_
  rintro en w17 ⟨rfl, hb⟩
  have HC17 := Lib.hid (HC16.out.below hb)
  have HB17 := Lib.hid (HB16.out.call hb)
  clear hb
  go_wp2_with fail
  refine (putConflicts_nil b _ w17 HC17.out.cell rfl).mono ?_
  rintro en w18 ⟨rfl, hb⟩
  have HC18 := Lib.hid (HC17.out.below hb)
  have HB18 := Lib.hid (HB17.out.call hb)
  clear hb
  go_wp2_with fail
  refine (putTrios_nil b _ w18 HC18.out.cell rfl).mono ?_
  rintro en w19 ⟨rfl, hb⟩
  have HC19 := Lib.hid (HC18.out.below hb)
  have HB19 := Lib.hid (HB18.out.call hb)
  clear hb
  go_wp2_with fail
  refine (putPairs_nil b _ w19 HC19.out.cell rfl).mono ?_
  rintro en w20 ⟨rfl, hb⟩
  have HC20 := Lib.hid (HC19.out.below hb)
  have HB20 := Lib.hid (HB19.out.call hb)
  clear hb
  go_wp2_with fail
  refine (growTexts_nil b _ w20 HC20.out.cell rfl).mono ?_
  rintro en w21 ⟨rfl, hb⟩
  have HC21 := Lib.hid (HC20.out.below hb)
  have HB21 := Lib.hid (HB20.out.call hb)
  clear hb
  go_wp2_with fail
  refine (growInts_nil b _ w21 HC21.out.cell rfl).mono ?_
  rintro en w22 ⟨rfl, hb⟩
  have HC22 := Lib.hid (HC21.out.below hb)
  have HB22 := Lib.hid (HB21.out.call hb)
  clear hb
  go_wp2_with fail
  refine (growAccounts_nil b _ w22 HC22.out.cell rfl).mono ?_
  rintro en w23 ⟨rfl, hb⟩
  have HC23 := Lib.hid (HC22.out.below hb)
  have HB23 := Lib.hid (HB22.out.call hb)
  clear hb
  go_wp2_with fail
  refine (growBal_any HC23.out.cell rfl HC23.out.os HC23.out.lv HC23.out.notin HC23.out.sv hn HML.out (Nat.le_trans hbs HB23.out.size)).mono ?_
  rintro en w24 ⟨vo, cur, C, rfl, ho, hrc, hrv, hb, hcl0, hCL⟩
  obtain ⟨ga, gc, rfl, _, _, _⟩ := ho.slice
  have HC24 : Hid (KeptG w24 b base (.slice sa vs.length sc) (.slice ta us.length tc) vs M (.slice ga cur.length gc) cur C) := Lib.hid ⟨(hb.block b (blk_lt HC23.out.cell) HC23.out.notin).trans HC23.out.cell, HC23.out.os.but balV_Free hb (fun k hk ⟨v, hv, hvk⟩ => by
    rcases HC23.out.sv v hv with h1 | h1
    · rw [h1] at hk; cases hk
    · exact h1 (by rw [hk, hvk])), hrv, ho.mono (Nat.le_trans hbs HB23.out.size), hrc⟩
  have HCL := Lib.hid hCL
  have hcl : Hid (cur.length = vs.length) := Lib.hid hcl0
  have HB24 := Lib.hid (HB23.out.trans (hb.mono (fun k _ hk => HIV.out k hk)))
  clear ho hrc hrv hb hCL hcl0
  go_wp2_with fail
  refine (growLines_nil b _ w24 HC24.out.cell rfl).mono ?_
  rintro en w25 ⟨rfl, hb⟩
  have HC25 := Lib.hid (HC24.out.below hb)
  have HB25 := Lib.hid (HB24.out.call hb)
  clear hb
  go_wp2_with fail
  refine (growJournals_nil b _ w25 HC25.out.cell rfl).mono ?_
  rintro en w26 ⟨rfl, hb⟩
  have HC26 := Lib.hid (HC25.out.below hb)
  have HB26 := Lib.hid (HB25.out.call hb)
  clear hb
  go_wp2_with fail
  refine (growChanges_nil b _ w26 HC26.out.cell rfl).mono ?_
  rintro en w27 ⟨rfl, hb⟩
  have HC27 := Lib.hid (HC26.out.below hb)
  have HB27 := Lib.hid (HB26.out.call hb)
  clear hb
  go_wp2_with fail
  refine (growConflicts_nil b _ w27 HC27.out.cell rfl).mono ?_
  rintro en w28 ⟨rfl, hb⟩
  have HC28 := Lib.hid (HC27.out.below hb)
  have HB28 := Lib.hid (HB27.out.call hb)
  clear hb
  go_wp2_with fail
  refine (growTrios_nil b _ w28 HC28.out.cell rfl).mono ?_
  rintro en w29 ⟨rfl, hb⟩
  have HC29 := Lib.hid (HC28.out.below hb)
  have HB29 := Lib.hid (HB28.out.call hb)
  clear hb
  go_wp2_with fail
  refine (growPairs_nil b _ w29 HC29.out.cell rfl).mono ?_
  rintro en w30 ⟨rfl, hb⟩
  have HC30 := Lib.hid (HC29.out.below hb)
  have HB30 := Lib.hid (HB29.out.call hb)
  clear hb
  go_wp2_with fail
  refine (markedTexts_nil w30).mono ?_
  rintro en w31 ⟨rfl, hb⟩
  have HC31 := Lib.hid (HC30.out.below hb)
  have HB31 := Lib.hid (HB30.out.call hb)
  have hz0 : w31.cell? ⟨b, 0, none⟩ = some (.slice none 0 0) := by rw [blk_cells HC31.out.cell]; rfl
  clear hb
  go_wp2_with fail
  refine (markedTexts_nil w31).mono ?_
  rintro en w32 ⟨rfl, hb⟩
  have HC32 := Lib.hid (HC31.out.below hb)
  have HB32 := Lib.hid (HB31.out.call hb)
  clear hb
  go_wp2_with fail
  refine (markedInts_nil w32).mono ?_
  rintro en w33 ⟨rfl, hb⟩
  have HC33 := Lib.hid (HC32.out.below hb)
  have HB33 := Lib.hid (HB32.out.call hb)
  have hz2 : w33.cell? ⟨b, 2, none⟩ = some (.slice none 0 0) := by rw [blk_cells HC33.out.cell]; rfl
  clear hb
  go_wp2_with fail
  refine (markedInts_nil w33).mono ?_
  rintro en w34 ⟨rfl, hb⟩
  have HC34 := Lib.hid (HC33.out.below hb)
  have HB34 := Lib.hid (HB33.out.call hb)
  clear hb
  go_wp2_with fail
  refine (markedAccounts_nil w34).mono ?_
  rintro en w35 ⟨rfl, hb⟩
  have HC35 := Lib.hid (HC34.out.below hb)
  have HB35 := Lib.hid (HB34.out.call hb)
  have hz4 : w35.cell? ⟨b, 4, none⟩ = some (.slice none 0 0) := by rw [blk_cells HC35.out.cell]; rfl
  clear hb
  go_wp2_with fail
  refine (markedAccounts_nil w35).mono ?_
  rintro en w36 ⟨rfl, hb⟩
  have HC36 := Lib.hid (HC35.out.below hb)
  have HB36 := Lib.hid (HB35.out.call hb)
  clear hb
  go_wp2_with fail
  refine (markedBal_any HC36.out.og.sl HC36.out.rg (by have := hcl.out; omega) (fun i l h => by have := HCL.out i l h; exact ⟨this.1, by omega⟩)).mono ?_
  rintro en w37 ⟨rfl, hb⟩
  have HC37 := Lib.hid (HC36.out.below hb)
  have HB37 := Lib.hid (HB36.out.call hb)
  have hz6 : w37.cell? ⟨b, 6, none⟩ = some (.slice sa vs.length sc) := by rw [blk_cells HC37.out.cell]; rfl
  clear hb
  go_wp2_with fail
  refine (markedBal_any HC37.out.os.sl HC37.out.rv hn (fun i l h => by have := HML.out i l h; exact ⟨this.1, by omega⟩)).mono ?_
  rintro en w38 ⟨rfl, hb⟩
  have HC38 := Lib.hid (HC37.out.below hb)
  have HB38 := Lib.hid (HB37.out.call hb)
  clear hb
  go_wp2_with fail
  refine (markedLines_nil w38).mono ?_
  rintro en w39 ⟨rfl, hb⟩
  have HC39 := Lib.hid (HC38.out.below hb)
  have HB39 := Lib.hid (HB38.out.call hb)
  have hz8 : w39.cell? ⟨b, 8, none⟩ = some (.slice none 0 0) := by rw [blk_cells HC39.out.cell]; rfl
  clear hb
  go_wp2_with fail
  refine (markedLines_nil w39).mono ?_
  rintro en w40 ⟨rfl, hb⟩
  have HC40 := Lib.hid (HC39.out.below hb)
  have HB40 := Lib.hid (HB39.out.call hb)
  clear hb
  go_wp2_with fail
  refine (markedJournals_nil w40).mono ?_
  rintro en w41 ⟨rfl, hb⟩
  have HC41 := Lib.hid (HC40.out.below hb)
  have HB41 := Lib.hid (HB40.out.call hb)
  have hz10 : w41.cell? ⟨b, 10, none⟩ = some (.slice none 0 0) := by rw [blk_cells HC41.out.cell]; rfl
  clear hb
  go_wp2_with fail
  refine (markedJournals_nil w41).mono ?_
  rintro en w42 ⟨rfl, hb⟩
  have HC42 := Lib.hid (HC41.out.below hb)
  have HB42 := Lib.hid (HB41.out.call hb)
  clear hb
  go_wp2_with fail
  refine (markedChanges_nil w42).mono ?_
  rintro en w43 ⟨rfl, hb⟩
  have HC43 := Lib.hid (HC42.out.below hb)
  have HB43 := Lib.hid (HB42.out.call hb)
  have hz12 : w43.cell? ⟨b, 12, none⟩ = some (.slice none 0 0) := by rw [blk_cells HC43.out.cell]; rfl
  clear hb
  go_wp2_with fail
  refine (markedChanges_nil w43).mono ?_
  rintro en w44 ⟨rfl, hb⟩
  have HC44 := Lib.hid (HC43.out.below hb)
  have HB44 := Lib.hid (HB43.out.call hb)
  clear hb
  go_wp2_with fail
  refine (markedConflicts_nil w44).mono ?_
  rintro en w45 ⟨rfl, hb⟩
  have HC45 := Lib.hid (HC44.out.below hb)
  have HB45 := Lib.hid (HB44.out.call hb)
  have hz14 : w45.cell? ⟨b, 14, none⟩ = some (.slice none 0 0) := by rw [blk_cells HC45.out.cell]; rfl
  clear hb
  go_wp2_with fail
  refine (markedConflicts_nil w45).mono ?_
  rintro en w46 ⟨rfl, hb⟩
  have HC46 := Lib.hid (HC45.out.below hb)
  have HB46 := Lib.hid (HB45.out.call hb)
  clear hb
  go_wp2_with fail
  refine (markedTrios_nil w46).mono ?_
  rintro en w47 ⟨rfl, hb⟩
  have HC47 := Lib.hid (HC46.out.below hb)
  have HB47 := Lib.hid (HB46.out.call hb)
  have hz16 : w47.cell? ⟨b, 16, none⟩ = some (.slice none 0 0) := by rw [blk_cells HC47.out.cell]; rfl
  clear hb
  go_wp2_with fail
  refine (markedTrios_nil w47).mono ?_
  rintro en w48 ⟨rfl, hb⟩
  have HC48 := Lib.hid (HC47.out.below hb)
  have HB48 := Lib.hid (HB47.out.call hb)
  clear hb
  go_wp2_with fail
  refine (markedPairs_nil w48).mono ?_
  rintro en w49 ⟨rfl, hb⟩
  have HC49 := Lib.hid (HC48.out.below hb)
  have HB49 := Lib.hid (HB48.out.call hb)
  have hz18 : w49.cell? ⟨b, 18, none⟩ = some (.slice none 0 0) := by rw [blk_cells HC49.out.cell]; rfl
  clear hb
  go_wp2_with fail
  refine (markedPairs_nil w49).mono ?_
  rintro en w50 ⟨rfl, hb⟩
  have HC50 := Lib.hid (HC49.out.below hb)
  have HB50 := Lib.hid (HB49.out.call hb)
  clear hb
  go_wp2_with fail
  go_ret
  exact ⟨rfl, HB50.out⟩
end Go.Proofs.YtfnmlpnncjhnmaaGreat
