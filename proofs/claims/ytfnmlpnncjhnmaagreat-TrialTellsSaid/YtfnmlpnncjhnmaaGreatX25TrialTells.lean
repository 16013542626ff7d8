/- sheet: the maker's steps: what is owned, owed, held. -/
import Derived.Test.YtfnmlpnncjhnmaaGreatX24TrialTells
set_option linter.unusedVariables false
set_option linter.unusedSimpArgs false
namespace Go.Proofs.YtfnmlpnncjhnmaaGreat
open Go.RowKit Go.Maps Go.Deep
variable {tb : Obj}

set_option maxHeartbeats 8000000 in
set_option maxRecDepth 100000 in
theorem shOwned_any {w0 w : World} {M c g : Nat} {e p o1 o2 o3 o4 o5 o6 : Int} {la : Option Addr} {lc : Nat} {l : List (Int × Int)} {A L E : Value} {os : KLs} (h : MSt w0 w M tb #[.pointer (some ⟨c, 0, none⟩), .pointer (some ⟨g, 0, none⟩), .int .i64 e, .int .i64 p, (.slice la l.length lc), A, L, E, .int .i64 o1, .int .i64 o2, .int .i64 o3, .int .i64 o4, .int .i64 o5, .int .i64 o6] os) (hm : ((.slice la l.length lc : Value), l) ∈ os)
    {mb : Option Nat} {r : List Ac} (hc : ChartAt w0 c mb r) (hl : l.length ≤ 800) (hfit : ∀ x ∈ l, fitsB x.2 = true) {Y : List (Int × Int)} (hY : (l.filter (pickB r [1])) = Y) {u : Int × Int} (hu : addM (Y.map (·.2)) = u) :
    Calls Tryz.prog 97 #[.pointer (some ⟨M, 0, none⟩)] w fun en w' => en = .returned (.int .i64 u.2) ∧ ∃ a c', MSt w0 w' M tb #[.pointer (some ⟨c, 0, none⟩), .pointer (some ⟨g, 0, none⟩), .int .i64 e, .int .i64 p, (.slice la l.length lc), (.slice a Y.length c'), L, E, .int .i64 u.1, .int .i64 o2, .int .i64 o3, .int .i64 o4, .int .i64 o5, .int .i64 o6] ((.slice a Y.length c', Y) :: os) := by
  have hls : Sl tBal w (fun _ => True) la l := (h.own _ hm).slice'
  have hbel := h.bel
  have HH := Lib.hid h
  have HU := Lib.hid hu
  have HF := Lib.hid hfit
  obtain ⟨X, hX⟩ : ∃ X, l.filter (pickB r [1]) = X := ⟨_, rfl⟩
  have HBa : Hid (SM w (w.drew.alloc (.cells #[.int .i64 1] 3))) := Lib.hid (SM.alloc (SM.drew (Below.refl _ _)) _)
  have HBb : Hid (SM w (w.alloc (.cells #[.int .i64 1] 3)).drew) := Lib.hid (SM.drew (SM.alloc (Below.refl _ _) _))
  have HKa := Lib.hid (sl_one1 1 w.heap.size (w.drew.alloc (.cells #[.int .i64 1] 3)) (blk_new w.drew _) (by decide))
  have HKb := Lib.hid (sl_one1 1 w.heap.size (w.alloc (.cells #[.int .i64 1] 3)).drew (blk_new w _) (by decide))
  have HP : Hid (∀ W, SM w W → Sl tInt W (fun _ => True) (some ⟨w.heap.size, 0, none⟩) [1] → Calls Tryz.prog 92 #[.pointer (some ⟨c, 0, none⟩), .slice la l.length lc, .slice (some ⟨w.heap.size, 0, none⟩) 1 1] W fun en w' => ∃ a c, en = .returned (.slice a X.length c) ∧ OwnL tBal w' w.heap.size (.slice a X.length c) X ∧ SM w w') := Lib.hid (fun W hb hk => by
    rw [← hX]
    refine (pick_any (hc.below (hbel.trans (Below.mono (show Below w.heap.size w W from hb) hbel.size))) l la lc [1] (some ⟨w.heap.size, 0, none⟩) 1 (Sl.keep (fun k hk _ => Below.block (show Below w.heap.size w W from hb) k hk) hls) (by omega) hk (by unfold maxLen; simp)).mono ?_
    rintro en w' ⟨v, rfl, ho, hb'⟩
    obtain ⟨a, c, rfl, _, _, hs⟩ := ho.slice
    exact ⟨a, c, rfl, ho.mono (show Below w.heap.size w W from hb).size, SM.call hb hb'⟩)
  have hfl : X.length ≤ 800 := by rw [← hX]; exact Nat.le_trans (List.length_filter_le _ _) hl
  have HFX : Hid (∀ x ∈ X, fitsB x.2 = true) := Lib.hid (fun x hx => by rw [← hX] at hx; exact hfit x (List.mem_filter.1 hx).1)
  rw [hX] at hY
  have hyl : Y.length ≤ 800 := by rw [← hY]; first | exact hfl | (rw [List.length_map]; exact hfl)
  have HY := Lib.hid hY
  have HM := Lib.hid h.cell
  have hcc := blk_cells h.cell
  have hlt := blk_lt h.cell
  have hS : SM w w := Below.refl _ _
  have KS : Hid (∀ W, SM w W → (W.cell? ⟨M, 0, none⟩ = some (.pointer (some ⟨c, 0, none⟩)) ∧ W.cell? ⟨M, 4, none⟩ = some (.slice la l.length lc))) := Lib.hid (fun W h => ⟨SM.at' HM.out h 0 rfl, SM.at' HM.out h 4 rfl⟩)
  have KT : Hid (∀ W v, SM w W → ((W.setCell ⟨M, 5, none⟩ v).cell? ⟨M, 0, none⟩ = some (.pointer (some ⟨c, 0, none⟩)) ∧ (W.setCell ⟨M, 5, none⟩ v).cell? ⟨M, 4, none⟩ = some (.slice la l.length lc))) := Lib.hid (fun W v h => by
    have h1 := blk_cells (blk_set (blk_below HM.out h) 5 v)
    exact ⟨by rw [h1]; simp, by rw [h1]; simp⟩)
  clear h hu hc hls hbel hfit hX hY
  go_enter Tryz.func97, Tryz.ntmps97
  go_wp2_with fail
  go_region_held3 (fun w' => w'.cell? ⟨M, 0, none⟩ = some (.pointer (some ⟨c, 0, none⟩)) ∧ w'.cell? ⟨M, 4, none⟩ = some (.slice la l.length lc)) (first | with_reducible exact KT.out _ _ HB2.out | with_reducible exact KS.out _ HB2.out | with_reducible exact KS.out _ HB1.out | with_reducible exact KS.out _ HBa.out | with_reducible exact KS.out _ HBb.out | with_reducible exact KS.out _ (SM.drew hS)) ((go_at_call 92; refine (HP.out _ (by first | with_reducible exact HBa.out | with_reducible exact HBb.out) (by first | with_reducible exact HKa.out | with_reducible exact HKb.out)).mono ?_; rintro en w2 ⟨xa, xc, rfl, ho, hb⟩; obtain rfl := HY.out.symm; have HB2 := Lib.hid hb; have HO2 := Lib.hid ho; have hfz := blk_frz (blk_below HM.out hb); have hcz := blk_cells (blk_below HM.out hb); have hlz := blk_lt (blk_below HM.out hb); clear ho hb))
  have hnx := HO2.out.ne (blk_below HM.out HB2.out) (by decide)
  have hst : MSt w0 (w2.setCell ⟨M, 5, none⟩ (.slice xa Y.length xc)) M tb #[.pointer (some ⟨c, 0, none⟩), .pointer (some ⟨g, 0, none⟩), .int .i64 e, .int .i64 p, (.slice la l.length lc), (.slice xa Y.length xc), L, E, .int .i64 o1, .int .i64 o2, .int .i64 o3, .int .i64 o4, .int .i64 o5, .int .i64 o6] ((.slice xa Y.length xc, Y) :: os) := (HH.out.add HB2.out HO2.out).set (Below.refl _ _) 5 _ (by simp)
  go_wp2_with fail
  refine abs_world (S := fun wx => MSt w0 wx M tb #[.pointer (some ⟨c, 0, none⟩), .pointer (some ⟨g, 0, none⟩), .int .i64 e, .int .i64 p, (.slice la l.length lc), (.slice xa Y.length xc), L, E, .int .i64 o1, .int .i64 o2, .int .i64 o3, .int .i64 o4, .int .i64 o5, .int .i64 o6] ((.slice xa Y.length xc, Y) :: os)) ?_ hst
  clear hst hnx HO2 HB2 hfz hcz hlz hcc hlt KS KT HM HH HBa HBb HKa HKb HP hS
  rintro wx hst
  have hox := hst.own _ (List.mem_cons_self ..)
  have HH := Lib.hid hst
  have HM := Lib.hid hst.cell
  have hcc := blk_cells hst.cell
  have hlt := blk_lt hst.cell
  have hS : SM wx wx := Below.refl _ _
  have HT := Lib.hid (total_any (w := wx.drew) (M := M) (k := 8) hst.cell (by simp) Y xa xc (Sl.keep (w := wx) (w' := wx.drew) (fun k hk _ => rfl) hox.slice') (by omega) HU.out)
  have KS : Hid (∀ W, SM wx W → W.cell? ⟨M, 5, none⟩ = some (.slice xa Y.length xc)) := Lib.hid (fun W h => SM.at' HM.out h 5 rfl)
  have KT : Hid (∀ W v, SM wx W → (W.setCell ⟨M, 8, none⟩ v).cell? ⟨M, 5, none⟩ = some (.slice xa Y.length xc)) := Lib.hid (fun W v h => by rw [blk_cells (blk_set (blk_below HM.out h) 8 v)]; simp)
  clear hst hox
  go_region_held3 (fun w' => w'.cell? ⟨M, 5, none⟩ = some (.slice xa Y.length xc)) (first | with_reducible exact KT.out _ _ HB3.out | with_reducible exact KS.out _ (SM.drew hS)) ((go_at_call 142; refine HT.out.mono ?_; rintro en w4 ⟨rfl, w3, hb, rfl⟩; have HB3 : Hid (SM wx w3) := Lib.hid (SM.call (SM.drew hS) hb); clear hb))
  go_wp2_with fail
  go_ret
  exact ⟨rfl, xa, xc, HH.out.set HB3.out 8 _ (by simp)⟩
set_option maxHeartbeats 8000000 in
set_option maxRecDepth 100000 in
theorem shOwed_any {w0 w : World} {M c g : Nat} {e p o1 o2 o3 o4 o5 o6 : Int} {la : Option Addr} {lc : Nat} {l : List (Int × Int)} {A L E : Value} {os : KLs} (h : MSt w0 w M tb #[.pointer (some ⟨c, 0, none⟩), .pointer (some ⟨g, 0, none⟩), .int .i64 e, .int .i64 p, (.slice la l.length lc), A, L, E, .int .i64 o1, .int .i64 o2, .int .i64 o3, .int .i64 o4, .int .i64 o5, .int .i64 o6] os) (hm : ((.slice la l.length lc : Value), l) ∈ os)
    {mb : Option Nat} {r : List Ac} (hc : ChartAt w0 c mb r) (hl : l.length ≤ 800) (hfit : ∀ x ∈ l, fitsB x.2 = true) {Y : List (Int × Int)} (hY : ((l.filter (pickB r [2])).map negB) = Y) {u : Int × Int} (hu : addM (Y.map (·.2)) = u) :
    Calls Tryz.prog 98 #[.pointer (some ⟨M, 0, none⟩)] w fun en w' => en = .returned (.int .i64 u.2) ∧ ∃ a c', MSt w0 w' M tb #[.pointer (some ⟨c, 0, none⟩), .pointer (some ⟨g, 0, none⟩), .int .i64 e, .int .i64 p, (.slice la l.length lc), A, (.slice a Y.length c'), E, .int .i64 o1, .int .i64 u.1, .int .i64 o3, .int .i64 o4, .int .i64 o5, .int .i64 o6] ((.slice a Y.length c', Y) :: os) := by
  have hls : Sl tBal w (fun _ => True) la l := (h.own _ hm).slice'
  have hbel := h.bel
  have HH := Lib.hid h
  have HU := Lib.hid hu
  have HF := Lib.hid hfit
  obtain ⟨X, hX⟩ : ∃ X, l.filter (pickB r [2]) = X := ⟨_, rfl⟩
  have HBa : Hid (SM w (w.drew.alloc (.cells #[.int .i64 2] 3))) := Lib.hid (SM.alloc (SM.drew (Below.refl _ _)) _)
  have HBb : Hid (SM w (w.alloc (.cells #[.int .i64 2] 3)).drew) := Lib.hid (SM.drew (SM.alloc (Below.refl _ _) _))
  have HKa := Lib.hid (sl_one1 2 w.heap.size (w.drew.alloc (.cells #[.int .i64 2] 3)) (blk_new w.drew _) (by decide))
  have HKb := Lib.hid (sl_one1 2 w.heap.size (w.alloc (.cells #[.int .i64 2] 3)).drew (blk_new w _) (by decide))
  have HP : Hid (∀ W, SM w W → Sl tInt W (fun _ => True) (some ⟨w.heap.size, 0, none⟩) [2] → Calls Tryz.prog 92 #[.pointer (some ⟨c, 0, none⟩), .slice la l.length lc, .slice (some ⟨w.heap.size, 0, none⟩) 1 1] W fun en w' => ∃ a c, en = .returned (.slice a X.length c) ∧ OwnL tBal w' w.heap.size (.slice a X.length c) X ∧ SM w w') := Lib.hid (fun W hb hk => by
    rw [← hX]
    refine (pick_any (hc.below (hbel.trans (Below.mono (show Below w.heap.size w W from hb) hbel.size))) l la lc [2] (some ⟨w.heap.size, 0, none⟩) 1 (Sl.keep (fun k hk _ => Below.block (show Below w.heap.size w W from hb) k hk) hls) (by omega) hk (by unfold maxLen; simp)).mono ?_
    rintro en w' ⟨v, rfl, ho, hb'⟩
    obtain ⟨a, c, rfl, _, _, hs⟩ := ho.slice
    exact ⟨a, c, rfl, ho.mono (show Below w.heap.size w W from hb).size, SM.call hb hb'⟩)
  have hfl : X.length ≤ 800 := by rw [← hX]; exact Nat.le_trans (List.length_filter_le _ _) hl
  have HFX : Hid (∀ x ∈ X, fitsB x.2 = true) := Lib.hid (fun x hx => by rw [← hX] at hx; exact hfit x (List.mem_filter.1 hx).1)
  rw [hX] at hY
  have hyl : Y.length ≤ 800 := by rw [← hY]; first | exact hfl | (rw [List.length_map]; exact hfl)
  have HY := Lib.hid hY
  have HM := Lib.hid h.cell
  have hcc := blk_cells h.cell
  have hlt := blk_lt h.cell
  have hS : SM w w := Below.refl _ _
  have KS : Hid (∀ W, SM w W → (W.cell? ⟨M, 0, none⟩ = some (.pointer (some ⟨c, 0, none⟩)) ∧ W.cell? ⟨M, 4, none⟩ = some (.slice la l.length lc))) := Lib.hid (fun W h => ⟨SM.at' HM.out h 0 rfl, SM.at' HM.out h 4 rfl⟩)
  have KT : Hid (∀ W v, SM w W → ((W.setCell ⟨M, 6, none⟩ v).cell? ⟨M, 0, none⟩ = some (.pointer (some ⟨c, 0, none⟩)) ∧ (W.setCell ⟨M, 6, none⟩ v).cell? ⟨M, 4, none⟩ = some (.slice la l.length lc))) := Lib.hid (fun W v h => by
    have h1 := blk_cells (blk_set (blk_below HM.out h) 6 v)
    exact ⟨by rw [h1]; simp, by rw [h1]; simp⟩)
  clear h hu hc hls hbel hfit hX hY
  go_enter Tryz.func98, Tryz.ntmps98
  go_wp2_with fail
  go_region_held3 (fun w' => w'.cell? ⟨M, 0, none⟩ = some (.pointer (some ⟨c, 0, none⟩)) ∧ w'.cell? ⟨M, 4, none⟩ = some (.slice la l.length lc)) (first | with_reducible exact KT.out _ _ HB2.out | with_reducible exact KS.out _ HB2.out | with_reducible exact KS.out _ HB1.out | with_reducible exact KS.out _ HBa.out | with_reducible exact KS.out _ HBb.out | with_reducible exact KS.out _ (SM.drew hS)) ((first | (go_at_call 92; refine (HP.out _ (by first | with_reducible exact HBa.out | with_reducible exact HBb.out) (by first | with_reducible exact HKa.out | with_reducible exact HKb.out)).mono ?_; rintro en w1 ⟨pa, pc, rfl, ho, hb⟩; have HB1 := Lib.hid hb; have HO1 := Lib.hid ho; clear ho hb) | (go_at_call 143; refine (shTurned_any X pa pc w1 HO1.out.slice' (by omega) HFX.out).mono ?_; rintro en w2 ⟨v, rfl, ho, hb⟩; rw [HY.out] at ho; have HB2 : Hid (SM w w2) := Lib.hid (SM.call HB1.out hb); have HO2 := Lib.hid (OwnL.mono ho (show Below w.heap.size w w1 from HB1.out).size); obtain ⟨xa, xc, rfl, _, _, _⟩ := HO2.out.slice; have hfz := blk_frz (blk_below HM.out HB2.out); have hcz := blk_cells (blk_below HM.out HB2.out); have hlz := blk_lt (blk_below HM.out HB2.out); clear ho hb)))
  have hnx := HO2.out.ne (blk_below HM.out HB2.out) (by decide)
  have hst : MSt w0 (w2.setCell ⟨M, 6, none⟩ (.slice xa Y.length xc)) M tb #[.pointer (some ⟨c, 0, none⟩), .pointer (some ⟨g, 0, none⟩), .int .i64 e, .int .i64 p, (.slice la l.length lc), A, (.slice xa Y.length xc), E, .int .i64 o1, .int .i64 o2, .int .i64 o3, .int .i64 o4, .int .i64 o5, .int .i64 o6] ((.slice xa Y.length xc, Y) :: os) := (HH.out.add HB2.out HO2.out).set (Below.refl _ _) 6 _ (by simp)
  go_wp2_with fail
  refine abs_world (S := fun wx => MSt w0 wx M tb #[.pointer (some ⟨c, 0, none⟩), .pointer (some ⟨g, 0, none⟩), .int .i64 e, .int .i64 p, (.slice la l.length lc), A, (.slice xa Y.length xc), E, .int .i64 o1, .int .i64 o2, .int .i64 o3, .int .i64 o4, .int .i64 o5, .int .i64 o6] ((.slice xa Y.length xc, Y) :: os)) ?_ hst
  clear hst hnx HO2 HB2 hfz hcz hlz hcc hlt KS KT HM HH HBa HBb HKa HKb HP hS
  rintro wx hst
  have hox := hst.own _ (List.mem_cons_self ..)
  have HH := Lib.hid hst
  have HM := Lib.hid hst.cell
  have hcc := blk_cells hst.cell
  have hlt := blk_lt hst.cell
  have hS : SM wx wx := Below.refl _ _
  have HT := Lib.hid (total_any (w := wx.drew) (M := M) (k := 9) hst.cell (by simp) Y xa xc (Sl.keep (w := wx) (w' := wx.drew) (fun k hk _ => rfl) hox.slice') (by omega) HU.out)
  have KS : Hid (∀ W, SM wx W → W.cell? ⟨M, 6, none⟩ = some (.slice xa Y.length xc)) := Lib.hid (fun W h => SM.at' HM.out h 6 rfl)
  have KT : Hid (∀ W v, SM wx W → (W.setCell ⟨M, 9, none⟩ v).cell? ⟨M, 6, none⟩ = some (.slice xa Y.length xc)) := Lib.hid (fun W v h => by rw [blk_cells (blk_set (blk_below HM.out h) 9 v)]; simp)
  clear hst hox
  go_region_held3 (fun w' => w'.cell? ⟨M, 6, none⟩ = some (.slice xa Y.length xc)) (first | with_reducible exact KT.out _ _ HB3.out | with_reducible exact KS.out _ (SM.drew hS)) ((go_at_call 142; refine HT.out.mono ?_; rintro en w4 ⟨rfl, w3, hb, rfl⟩; have HB3 : Hid (SM wx w3) := Lib.hid (SM.call (SM.drew hS) hb); clear hb))
  go_wp2_with fail
  go_ret
  exact ⟨rfl, xa, xc, HH.out.set HB3.out 9 _ (by simp)⟩
set_option maxHeartbeats 8000000 in
set_option maxRecDepth 100000 in
theorem shHeld_any {w0 w : World} {M c g : Nat} {e p o1 o2 o3 o4 o5 o6 : Int} {la : Option Addr} {lc : Nat} {l : List (Int × Int)} {A L E : Value} {os : KLs} (h : MSt w0 w M tb #[.pointer (some ⟨c, 0, none⟩), .pointer (some ⟨g, 0, none⟩), .int .i64 e, .int .i64 p, (.slice la l.length lc), A, L, E, .int .i64 o1, .int .i64 o2, .int .i64 o3, .int .i64 o4, .int .i64 o5, .int .i64 o6] os) (hm : ((.slice la l.length lc : Value), l) ∈ os)
    {mb : Option Nat} {r : List Ac} (hc : ChartAt w0 c mb r) (hl : l.length ≤ 800) (hfit : ∀ x ∈ l, fitsB x.2 = true) {Y : List (Int × Int)} (hY : ((l.filter (pickB r [3])).map negB) = Y) {u : Int × Int} (hu : addM (Y.map (·.2)) = u) :
    Calls Tryz.prog 99 #[.pointer (some ⟨M, 0, none⟩)] w fun en w' => en = .returned (.int .i64 u.2) ∧ ∃ a c', MSt w0 w' M tb #[.pointer (some ⟨c, 0, none⟩), .pointer (some ⟨g, 0, none⟩), .int .i64 e, .int .i64 p, (.slice la l.length lc), A, L, (.slice a Y.length c'), .int .i64 o1, .int .i64 o2, .int .i64 u.1, .int .i64 o4, .int .i64 o5, .int .i64 o6] ((.slice a Y.length c', Y) :: os) := by
  have hls : Sl tBal w (fun _ => True) la l := (h.own _ hm).slice'
  have hbel := h.bel
  have HH := Lib.hid h
  have HU := Lib.hid hu
  have HF := Lib.hid hfit
  obtain ⟨X, hX⟩ : ∃ X, l.filter (pickB r [3]) = X := ⟨_, rfl⟩
  have HBa : Hid (SM w (w.drew.alloc (.cells #[.int .i64 3] 3))) := Lib.hid (SM.alloc (SM.drew (Below.refl _ _)) _)
  have HBb : Hid (SM w (w.alloc (.cells #[.int .i64 3] 3)).drew) := Lib.hid (SM.drew (SM.alloc (Below.refl _ _) _))
  have HKa := Lib.hid (sl_one1 3 w.heap.size (w.drew.alloc (.cells #[.int .i64 3] 3)) (blk_new w.drew _) (by decide))
  have HKb := Lib.hid (sl_one1 3 w.heap.size (w.alloc (.cells #[.int .i64 3] 3)).drew (blk_new w _) (by decide))
  have HP : Hid (∀ W, SM w W → Sl tInt W (fun _ => True) (some ⟨w.heap.size, 0, none⟩) [3] → Calls Tryz.prog 92 #[.pointer (some ⟨c, 0, none⟩), .slice la l.length lc, .slice (some ⟨w.heap.size, 0, none⟩) 1 1] W fun en w' => ∃ a c, en = .returned (.slice a X.length c) ∧ OwnL tBal w' w.heap.size (.slice a X.length c) X ∧ SM w w') := Lib.hid (fun W hb hk => by
    rw [← hX]
    refine (pick_any (hc.below (hbel.trans (Below.mono (show Below w.heap.size w W from hb) hbel.size))) l la lc [3] (some ⟨w.heap.size, 0, none⟩) 1 (Sl.keep (fun k hk _ => Below.block (show Below w.heap.size w W from hb) k hk) hls) (by omega) hk (by unfold maxLen; simp)).mono ?_
    rintro en w' ⟨v, rfl, ho, hb'⟩
    obtain ⟨a, c, rfl, _, _, hs⟩ := ho.slice
    exact ⟨a, c, rfl, ho.mono (show Below w.heap.size w W from hb).size, SM.call hb hb'⟩)
  have hfl : X.length ≤ 800 := by rw [← hX]; exact Nat.le_trans (List.length_filter_le _ _) hl
  have HFX : Hid (∀ x ∈ X, fitsB x.2 = true) := Lib.hid (fun x hx => by rw [← hX] at hx; exact hfit x (List.mem_filter.1 hx).1)
  rw [hX] at hY
  have hyl : Y.length ≤ 800 := by rw [← hY]; first | exact hfl | (rw [List.length_map]; exact hfl)
  have HY := Lib.hid hY
  have HM := Lib.hid h.cell
  have hcc := blk_cells h.cell
  have hlt := blk_lt h.cell
  have hS : SM w w := Below.refl _ _
  have KS : Hid (∀ W, SM w W → (W.cell? ⟨M, 0, none⟩ = some (.pointer (some ⟨c, 0, none⟩)) ∧ W.cell? ⟨M, 4, none⟩ = some (.slice la l.length lc))) := Lib.hid (fun W h => ⟨SM.at' HM.out h 0 rfl, SM.at' HM.out h 4 rfl⟩)
  have KT : Hid (∀ W v, SM w W → ((W.setCell ⟨M, 7, none⟩ v).cell? ⟨M, 0, none⟩ = some (.pointer (some ⟨c, 0, none⟩)) ∧ (W.setCell ⟨M, 7, none⟩ v).cell? ⟨M, 4, none⟩ = some (.slice la l.length lc))) := Lib.hid (fun W v h => by
    have h1 := blk_cells (blk_set (blk_below HM.out h) 7 v)
    exact ⟨by rw [h1]; simp, by rw [h1]; simp⟩)
  clear h hu hc hls hbel hfit hX hY
  go_enter Tryz.func99, Tryz.ntmps99
  go_wp2_with fail
  go_region_held3 (fun w' => w'.cell? ⟨M, 0, none⟩ = some (.pointer (some ⟨c, 0, none⟩)) ∧ w'.cell? ⟨M, 4, none⟩ = some (.slice la l.length lc)) (first | with_reducible exact KT.out _ _ HB2.out | with_reducible exact KS.out _ HB2.out | with_reducible exact KS.out _ HB1.out | with_reducible exact KS.out _ HBa.out | with_reducible exact KS.out _ HBb.out | with_reducible exact KS.out _ (SM.drew hS)) ((first | (go_at_call 92; refine (HP.out _ (by first | with_reducible exact HBa.out | with_reducible exact HBb.out) (by first | with_reducible exact HKa.out | with_reducible exact HKb.out)).mono ?_; rintro en w1 ⟨pa, pc, rfl, ho, hb⟩; have HB1 := Lib.hid hb; have HO1 := Lib.hid ho; clear ho hb) | (go_at_call 143; refine (shTurned_any X pa pc w1 HO1.out.slice' (by omega) HFX.out).mono ?_; rintro en w2 ⟨v, rfl, ho, hb⟩; rw [HY.out] at ho; have HB2 : Hid (SM w w2) := Lib.hid (SM.call HB1.out hb); have HO2 := Lib.hid (OwnL.mono ho (show Below w.heap.size w w1 from HB1.out).size); obtain ⟨xa, xc, rfl, _, _, _⟩ := HO2.out.slice; have hfz := blk_frz (blk_below HM.out HB2.out); have hcz := blk_cells (blk_below HM.out HB2.out); have hlz := blk_lt (blk_below HM.out HB2.out); clear ho hb)))
  have hnx := HO2.out.ne (blk_below HM.out HB2.out) (by decide)
  have hst : MSt w0 (w2.setCell ⟨M, 7, none⟩ (.slice xa Y.length xc)) M tb #[.pointer (some ⟨c, 0, none⟩), .pointer (some ⟨g, 0, none⟩), .int .i64 e, .int .i64 p, (.slice la l.length lc), A, L, (.slice xa Y.length xc), .int .i64 o1, .int .i64 o2, .int .i64 o3, .int .i64 o4, .int .i64 o5, .int .i64 o6] ((.slice xa Y.length xc, Y) :: os) := (HH.out.add HB2.out HO2.out).set (Below.refl _ _) 7 _ (by simp)
  go_wp2_with fail
  refine abs_world (S := fun wx => MSt w0 wx M tb #[.pointer (some ⟨c, 0, none⟩), .pointer (some ⟨g, 0, none⟩), .int .i64 e, .int .i64 p, (.slice la l.length lc), A, L, (.slice xa Y.length xc), .int .i64 o1, .int .i64 o2, .int .i64 o3, .int .i64 o4, .int .i64 o5, .int .i64 o6] ((.slice xa Y.length xc, Y) :: os)) ?_ hst
  clear hst hnx HO2 HB2 hfz hcz hlz hcc hlt KS KT HM HH HBa HBb HKa HKb HP hS
  rintro wx hst
  have hox := hst.own _ (List.mem_cons_self ..)
  have HH := Lib.hid hst
  have HM := Lib.hid hst.cell
  have hcc := blk_cells hst.cell
  have hlt := blk_lt hst.cell
  have hS : SM wx wx := Below.refl _ _
  have HT := Lib.hid (total_any (w := wx.drew) (M := M) (k := 10) hst.cell (by simp) Y xa xc (Sl.keep (w := wx) (w' := wx.drew) (fun k hk _ => rfl) hox.slice') (by omega) HU.out)
  have KS : Hid (∀ W, SM wx W → W.cell? ⟨M, 7, none⟩ = some (.slice xa Y.length xc)) := Lib.hid (fun W h => SM.at' HM.out h 7 rfl)
  have KT : Hid (∀ W v, SM wx W → (W.setCell ⟨M, 10, none⟩ v).cell? ⟨M, 7, none⟩ = some (.slice xa Y.length xc)) := Lib.hid (fun W v h => by rw [blk_cells (blk_set (blk_below HM.out h) 10 v)]; simp)
  clear hst hox
  go_region_held3 (fun w' => w'.cell? ⟨M, 7, none⟩ = some (.slice xa Y.length xc)) (first | with_reducible exact KT.out _ _ HB3.out | with_reducible exact KS.out _ (SM.drew hS)) ((go_at_call 142; refine HT.out.mono ?_; rintro en w4 ⟨rfl, w3, hb, rfl⟩; have HB3 : Hid (SM wx w3) := Lib.hid (SM.call (SM.drew hS) hb); clear hb))
  go_wp2_with fail
  go_ret
  exact ⟨rfl, xa, xc, HH.out.set HB3.out 10 _ (by simp)⟩
end Go.Proofs.YtfnmlpnncjhnmaaGreat
