/- variorumbook: Book.Trios, walked. Printed by mktrios.py. -/
import Derived.Test.YtacemlbfifhllaaGreatX35GatesPlay
import Derived.Test.YtacemlbfifhllaaGreatX36GatesPlay
set_option linter.unusedVariables false
set_option linter.unusedSimpArgs false
namespace Go.Proofs.YtacemlbfifhllaaGreat
open Go.RowKit Go.Maps Go.Deep

theorem ktrio_done {w wx w5 w6 : World} {b base gb gd : Nat} {s t s' x x' : Value} {vs us : List Value} {L : List (List (Int × Int × Int))} {l : List (Int × Int × Int)} (h : KeptT w b base s t vs us L) (hx : OwnL tTrio w base x l)
    (ha : ApartV s x ∧ ApartV t x ∧ (∀ v ∈ vs, ApartV v x) ∧ ∀ v ∈ us, ApartV v x) (hbs : base ≤ w.heap.size) (F1 : Fr w wx b s) (B1 : But (fun k => b ≤ k) w wx) (os : OwnL tTrioV wx base s' (vs ++ [x])) (as_ : s'.ownBlock = s.ownBlock ∨ ∀ k, s'.ownBlock = some k → w.heap.size ≤ k)
    (ht : OwnL tTrioV wx base t us) (hb5 : Below wx.heap.size wx w5) (ho5 : OwnL tTrio w5 wx.heap.size x' l) (hg : (w5.alloc (.cells #[x'] 51)).grownBy w6 t.ownBlock) (ho6 : OwnL tTrioV w6 base (.slice (some ⟨gb, 0, none⟩) (us.length + 1) gd) (us ++ [x']))
    (hat : (Value.slice (some ⟨gb, 0, none⟩) (us.length + 1) gd).ownBlock = t.ownBlock ∨ (Value.slice (some ⟨gb, 0, none⟩) (us.length + 1) gd).ownBlock = some (w5.alloc (.cells #[x'] 51)).heap.size) (hc : w6.heap[b]? = some (.cells (bookT s' t) 41 (0, 0))) :
    (Ending.returned (.tuple #[]) = .returned (.tuple #[])) ∧ But (fun k => b ≤ k) w (w6.setCell ⟨b, 17, none⟩ (.slice (some ⟨gb, 0, none⟩) (us.length + 1) gd)) ∧ ∃ s' t' x', KeptT (w6.setCell ⟨b, 17, none⟩ (.slice (some ⟨gb, 0, none⟩) (us.length + 1) gd)) b base s' t' (vs ++ [x]) (us ++ [x']) (L ++ [l]) ∧ KFr w (w6.setCell ⟨b, 17, none⟩ (.slice (some ⟨gb, 0, none⟩) (us.length + 1) gd)) b s t s' t' x' := by
  have hs5 := hb5.size
  have hs1 := F1.1
  have hs6 := hg.size
  simp at hs6
  have hbt : ∀ k, t.ownBlock = some k → base ≤ k ∧ k < wx.heap.size := ht.lt
  have hbb := h.bb
  have F2 : Fr wx (w6.setCell ⟨b, 17, none⟩ (.slice (some ⟨gb, 0, none⟩) (us.length + 1) gd)) b t := ⟨by simp; omega, fun k hk hkb hks => (Below.heap_setCell w6 ⟨b, 17, none⟩ _ k hkb).trans ((hg.block k (by simp; omega) hks).trans ((Below.heap_alloc w5 _ k (by omega)).trans (hb5.block k hk)))⟩
  have hox : OwnL tTrio (w6.setCell ⟨b, 17, none⟩ (.slice (some ⟨gb, 0, none⟩) (us.length + 1) gd)) base x' l := by
    refine (ho5.mono (by omega)).keepF trio_Free (fun k hk => ?_)
    obtain ⟨h1, h2⟩ := ho5.lt k hk
    exact (Below.heap_setCell w6 ⟨b, 17, none⟩ _ k (by show k ≠ b; omega)).trans ((hg.block k (by simp; omega) (fun e => by have := hbt k e.symm; omega)).trans (Below.heap_alloc w5 _ k h2))
  refine ⟨rfl, ?_, s', _, x', ⟨h.add hx ha.1 ha.2.1 ha.2.2.1 ha.2.2.2 F1 os as_ F2 hox (fun k hk => (ho5.lt k hk).1) (ho6.keepF trioV_Free (fun k hk => Below.heap_setCell w6 ⟨b, 17, none⟩ _ k (by have := (ho6.lt k hk).1; show k ≠ b; omega))) ?_ ?_ ?_, ⟨by simp; omega, fun k hk hkb hks hkt => (F2.2 k (by omega) hkb hkt).trans (F1.2 k hk hkb hks), as_, ?_, fun k hk => by have := (ho5.lt k hk).1; omega⟩⟩⟩
  · refine But.setCell (p := ⟨b, 17, none⟩) ((((B1.call hb5).alloc _)).grown hg (fun k hk => .inl (by have := hbt k hk; omega))) (.inl (Nat.le_refl _)) _
  · refine hat.imp id (fun e k hk => ?_)
    rw [e] at hk
    injection hk with hk
    simp at hk
    omega
  · rcases hat with e | e
    · exact (apart_new (n := wx.heap.size) (fun k hk => (ho5.lt k hk).1) (fun k hk => (hbt k (by rw [← e]; exact hk)).2)).symm
    · exact apart_new (n := w5.heap.size) (fun k hk => by rw [e] at hk; injection hk with hk; simp at hk; omega) (fun k hk => (ho5.lt k hk).2)
  · have := blk_set hc 17 (.slice (some ⟨gb, 0, none⟩) (us.length + 1) gd)
    simpa [bookT] using this
  · refine hat.imp id (fun e k hk => ?_)
    rw [e] at hk
    injection hk with hk
    simp at hk
    omega

set_option maxHeartbeats 16000000 in
set_option maxRecDepth 100000 in
theorem ktrio_any {w : World} {b base : Nat} {s t : Value} {vs us : List Value} {L : List (List (Int × Int × Int))} (h : KeptT w b base s t vs us L) {xa : Option Addr} {xc : Nat} {l : List (Int × Int × Int)} (hx : OwnL tTrio w base (.slice xa l.length xc) l)
    (xs : ApartV s (.slice xa l.length xc)) (xt : ApartV t (.slice xa l.length xc)) (xv : ∀ v ∈ vs, ApartV v (.slice xa l.length xc)) (xu : ∀ v ∈ us, ApartV v (.slice xa l.length xc)) (hn : vs.length ≤ 100) (hl : l.length ≤ 100000) (hbs : base ≤ w.heap.size) :
    Calls Tryz.prog 9 #[.pointer (some ⟨b, 0, none⟩), .slice xa l.length xc] w fun e w' => e = .returned (.tuple #[]) ∧ But (fun k => b ≤ k) w w' ∧ ∃ s' t' x', KeptT w' b base s' t' (vs ++ [.slice xa l.length xc]) (us ++ [x']) (L ++ [l]) ∧ KFr w w' b s t s' t' x' := by
  obtain ⟨j0, hj, hy0, hy1, hy2⟩ := info_parts infoTrioV
  obtain ⟨sa, sc, rfl, _, _, _⟩ := h.os.slice
  obtain ⟨ta, tc, rfl, _, _, _⟩ := h.ot.slice
  have hun : us.length = vs.length := by rw [h.lu.len, h.lv.len]
  have HUN := Lib.hid hun
  have H := Lib.hid h
  have HX := Lib.hid hx
  have HXS := Lib.hid (And.intro xs (And.intro xt (And.intro xv xu)))
  have hbl := blk_lt h.cell
  have hbb := Lib.hid h.bb
  have hz6 : w.cell? ⟨b, 16, none⟩ = some (.slice sa vs.length sc) := by rw [blk_cells h.cell]; rfl
  have h250 : (vs.length : Int) < 250 := by omega
  have HOA : Hid (OwnL tTrioV (w.alloc (.cells #[.slice xa l.length xc] 51)) base (.slice sa vs.length sc) vs) := Lib.hid (h.os.alloc _)
  have HSV : Hid (Sl tTrioV (w.alloc (.cells #[.slice xa l.length xc] 51)) (fun k => some k ≠ (Value.slice sa vs.length sc).ownBlock ∧ k < (w.alloc (.cells #[.slice xa l.length xc] 51)).heap.size) (some ⟨w.heap.size, 0, none⟩) [.slice xa l.length xc]) := Lib.hid (sl_oneVT (blk_new w _) ⟨fun e => by have := (h.os.lt _ e.symm).2; omega, by simp⟩)
  have hba : (w.alloc (.cells #[.slice xa l.length xc] 51)).heap[b]? = some (.cells (bookT (.slice sa vs.length sc) (.slice ta us.length tc)) 41 (0, 0)) := blk_alloc h.cell _
  have HBA := Lib.hid hba
  have HSB : Hid (∀ k, (Value.slice sa vs.length sc).ownBlock = some k → b < k) := Lib.hid (fun k hk => Nat.lt_of_lt_of_le h.bb (h.os.lt k hk).1)
  clear h hx xs xt xv xu hun hba
  go_enter Tryz.func9, Tryz.ntmps9
  go_wp2_with (at_builtin; refine wp_app (T := tTrioV) rfl _ _ 38 rfl j0 (.slice none 0 0) 24 Tryz.underlying38 hj hy0 hy1 hy2 rfl (by decide) trioV_one base (.slice sa vs.length sc) vs rfl HOA.out ⟨w.heap.size, 0, none⟩ 1 [.slice xa l.length xc] rfl HSV.out (by unfold maxLen; simp; omega) (by simp; omega) (by simp; omega) ?_; intro v3 w3 hown hg _ hat; have HCB := Lib.hid ((hg.block b (by simp; omega) (fun e => by have := HSB.out b e.symm; omega)).trans HBA.out); obtain ⟨ga, gc, rfl, _⟩ := form_snoc hown; have hz36 : w3.cell? ⟨b, 16, none⟩ = some (.slice sa vs.length sc) := (by rw [blk_cells HCB.out]; rfl); have hf36 := blk_frz HCB.out 16; have HO3 := Lib.hid hown; have HG3 := Lib.hid hg; have HAT3 := Lib.hid hat; clear hown hg hat)
  refine abs_world (S := fun wx => wx.heap[b]? = some (.cells (bookT (.slice (some ⟨ga, 0, none⟩) (vs.length + 1) gc) (.slice ta us.length tc)) 41 (0, 0)) ∧ OwnL tTrioV wx base (.slice (some ⟨ga, 0, none⟩) (vs.length + 1) gc) (vs ++ [.slice xa l.length xc]) ∧ Fr w wx b (.slice sa vs.length sc) ∧ But (fun k => b ≤ k) w wx ∧ OwnL tTrioV wx base (.slice ta us.length tc) us ∧ OwnL tTrio wx base (.slice xa l.length xc) l) ?_ (by
    have hFr : Fr w (w3.setCell ⟨b, 16, none⟩ (.slice (some ⟨ga, 0, none⟩) (vs.length + 1) gc)) b (.slice sa vs.length sc) := ⟨by have := HG3.out.size; simp at this ⊢; omega, fun k hk hkb hks => (Below.heap_setCell w3 ⟨b, 16, none⟩ _ k hkb).trans ((HG3.out.block k (by simp; omega) hks).trans (Below.heap_alloc w _ k hk))⟩
    have hBu : But (fun k => b ≤ k) w (w3.setCell ⟨b, 16, none⟩ (.slice (some ⟨ga, 0, none⟩) (vs.length + 1) gc)) := But.setCell (p := ⟨b, 16, none⟩) ((((But.refl (fun k => b ≤ k) w).alloc _)).grown HG3.out (fun k hk => .inl (by have := HSB.out k hk; omega))) (.inl (Nat.le_refl _)) _
    refine ⟨by have := blk_set HCB.out 16 (.slice (some ⟨ga, 0, none⟩) (vs.length + 1) gc); simpa [bookT] using this, HO3.out.keepF trioV_Free (fun k hk => Below.heap_setCell w3 ⟨b, 16, none⟩ _ k (by have := (HO3.out.lt k hk).1; have := hbb.out; show k ≠ b; omega)), hFr, hBu, H.out.ot.fr trioV_Free hbb.out hFr H.out.st, HX.out.fr trio_Free hbb.out hFr HXS.out.1⟩)
  rintro wx ⟨hcx, hsx, hfx, hbx, htx, hxx⟩
  have HCX := Lib.hid hcx
  have HSX := Lib.hid hsx
  have HFX := Lib.hid hfx
  have HBX := Lib.hid hbx
  have HTX := Lib.hid htx
  have HXX := Lib.hid hxx
  have hz7 : wx.cell? ⟨b, 17, none⟩ = some (.slice ta us.length tc) := by rw [blk_cells hcx]; rfl
  have hf7 := blk_frz hcx 17
  have hlx := blk_lt hcx
  have h63 : us.length + 1 ≤ maxLen := by have := HUN.out; unfold maxLen; omega
  have hby : (us.length + 1) * 24 ≤ 140737488355328 := by have := HUN.out; omega
  have hbse := hbx.size
  clear hcx hsx hfx hbx htx hxx hz36 hf36
  go_region_law (first
    | (refine step_call rfl 24 #[.slice xa l.length xc] (by simp [execOp, resolve, invoke, Act.eval, Act.put, go_sem]) ?_; refine (cpTrio_any (w := wx.drew) (HXX.out.keep (Nat.le_refl _) (fun _ _ => rfl)) hl).mono ?_; rintro en w5 ⟨v5, rfl, ho, hb⟩; refine ⟨_, rfl, ?_⟩; obtain ⟨ca, cc, rfl, _⟩ := ho.slice; have HB5 : Hid (Below wx.heap.size wx w5) := Lib.hid ((Below.drew (Below.refl _ wx)).trans hb); have HO5 : Hid (OwnL tTrio w5 wx.heap.size (.slice ca l.length cc) l) := Lib.hid ho; have HC5 := Lib.hid (blk_below HCX.out HB5.out); have hz57 : w5.cell? ⟨b, 17, none⟩ = some (.slice ta us.length tc) := (by rw [blk_cells HC5.out]; rfl); have hf57 := blk_frz HC5.out 17; have hl5 := blk_lt HC5.out; have hs5 := HB5.out.size; have HT5 : Hid (OwnL tTrioV (w5.alloc (.cells #[.slice ca l.length cc] 51)) base (.slice ta us.length tc) us) := Lib.hid ((HTX.out.below HB5.out).alloc _); have HV5 : Hid (Sl tTrioV (w5.alloc (.cells #[.slice ca l.length cc] 51)) (fun k => some k ≠ (Value.slice ta us.length tc).ownBlock ∧ k < (w5.alloc (.cells #[.slice ca l.length cc] 51)).heap.size) (some ⟨w5.heap.size, 0, none⟩) [.slice ca l.length cc]) := Lib.hid (sl_oneVT (blk_new w5 _) ⟨fun e => by have := (HTX.out.lt _ e.symm).2; omega, by simp⟩); clear hb ho)
    | (refine step_app (T := tTrioV) rfl (.tmp 24) (.tmp 27) 38 rfl j0 (.slice none 0 0) 24 Tryz.underlying38 hj hy0 hy1 hy2 rfl (by decide) trioV_one base (.slice ta us.length tc) us (by simp [Act.eval, Act.put]) HT5.out ⟨w5.heap.size, 0, none⟩ 1 [.slice ca l.length cc] (by simp [Act.eval, Act.put]) HV5.out h63 hby (by simp; omega) ?_; intro v6 w6 hown hg hat; have HC6 := Lib.hid ((hg.block b (by simp; omega) (fun e => by have := (HTX.out.lt _ e.symm).1; have := hbb.out; omega)).trans (blk_alloc HC5.out _)); obtain ⟨gb, gd, rfl, _⟩ := form_snoc hown; have hz67 : w6.cell? ⟨b, 17, none⟩ = some (.slice ta us.length tc) := (by rw [blk_cells HC6.out]; rfl); have hf67 := blk_frz HC6.out 17; have HO6 := Lib.hid hown; have HG6 := Lib.hid hg; have HAT6 := Lib.hid hat; clear hown hg hat))
  all_goals
    go_wp2_with fail
    go_end0
    exact ktrio_done H.out HX.out HXS.out hbs HFX.out HBX.out HSX.out (HAT3.out.imp id (fun e k hk => by rw [e] at hk; injection hk with hk; simp at hk; omega)) HTX.out HB5.out HO5.out HG6.out HO6.out HAT6.out HC6.out
end Go.Proofs.YtacemlbfifhllaaGreat
