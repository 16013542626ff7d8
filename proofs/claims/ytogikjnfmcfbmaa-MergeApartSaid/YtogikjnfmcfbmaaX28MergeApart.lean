/- merge: what comes of a number (one): the three journals, fetched in whatever order. -/
import Derived.Test.YtogikjnfmcfbmaaX26MergeApart
import Derived.Test.YtogikjnfmcfbmaaX27MergeApart
set_option linter.unusedVariables false
set_option linter.unusedSimpArgs false
namespace Go.Proofs.Ytogikjnfmcfbmaa
open Go.RowKit Go.Maps

theorem inv_step {P : Program} {o : Oper} {a : Act} {w : World} {I : Act → World → Prop} {Q : Exit → Act → World → Prop} (h : ∀ K : Act → World → Prop, (∀ a w, I a w → K a w) → o.wp P a w K Q) : o.wp P a w I Q := h _ (fun _ _ h => h)

theorem same_R {a b : Jn} {aa ba : Option Addr} {ac bc : Nat} {w : World} {F G : Nat → Prop} (h1 : tJn.R w F (jcs a aa ac) a) (h2 : tJn.R w G (jcs b ba bc) b) {r : Bool} (hr : sameJ a b = r) :
    Calls Try.prog 46 #[jnv a aa ac, jnv b ba bc] w fun e w' => e = .returned (.bool r) ∧ Below w.heap.size w w' := by
  obtain ⟨_, _, _, _, h5, h6, h7, _⟩ := jcs_inv h1
  obtain ⟨_, _, _, _, k5, k6, k7, _⟩ := jcs_inv h2
  exact esame_any a b aa ba ac bc w h5 k5 (Nat.le_trans h6 h7) (Nat.le_trans k6 k7) hr
theorem gone_is {x : Jn} {b : Bool} (h : goneJ x = b) (a : Option Addr) (c : Nat) (w : World) : Calls Try.prog 68 #[jnv x a c] w fun e w' => e = .returned (.bool b) ∧ Below w.heap.size w w' := by
  rw [← h]
  exact gone_any x a c w
def OneB (w : World) (x : Jn × Int) (e : Ending) (w' : World) : Prop :=
  ∃ a c, e = .returned (.tuple #[jnv x.1 a c, .int .i64 x.2]) ∧ tJn.R w' (fun k => w.heap.size ≤ k ∧ k < w'.heap.size) (jcs x.1 a c) x.1 ∧ Below w.heap.size w w'

set_option maxHeartbeats 16000000 in
set_option maxRecDepth 100000 in
theorem one_any {w : World} {g0 g1 g2 : Nat} {a0 a1 a2 : Option Addr} {k0 k1 k2 : Nat} {l0 l1 l2 : List Jn} {F0 F1 F2 : Nat → Prop} (h0 : BookAt w g0 a0 k0 l0 F0) (h1 : BookAt w g1 a1 k1 l1 F1) (h2 : BookAt w g2 a2 k2 l2 F2)
    (hl0 : l0.length ≤ 1000) (hl1 : l1.length ≤ 1000) (hl2 : l2.length ≤ 1000) (hO0 : OrdJ l0) (hO1 : OrdJ l1) (hO2 : OrdJ l2) (hn0 : ∀ x ∈ l0, x.lines ≠ []) (hn1 : ∀ x ∈ l1, x.lines ≠ []) (hn2 : ∀ x ∈ l2, x.lines ≠ []) (id : Int) (hid : I64 id) :
    Calls Try.prog 52 #[(.agg #[.pointer (some ⟨g0, 0, none⟩), .pointer (some ⟨g1, 0, none⟩), .pointer (some ⟨g2, 0, none⟩)]), .int .i64 id] w (OneB w (oneJ (getJ l0 id) (getJ l1 id) (getJ l2 id))) := by
  have HB := Lib.hid (((Below.refl w.heap.size w).alloc (Nat.le_refl _) (.cells #[.pointer (some ⟨g0, 0, none⟩), .pointer (some ⟨g1, 0, none⟩), .pointer (some ⟨g2, 0, none⟩)] 71)).alloc (by simp) (.cells #[.int .i64 0, .int .i64 0, .int .i64 0, .string ⟨#[]⟩, .slice none 0 0, .bool false] 31))
  have HZ1 : Hid (((w.alloc (.cells #[.pointer (some ⟨g0, 0, none⟩), .pointer (some ⟨g1, 0, none⟩), .pointer (some ⟨g2, 0, none⟩)] 71)).alloc (.cells #[.int .i64 0, .int .i64 0, .int .i64 0, .string ⟨#[]⟩, .slice none 0 0, .bool false] 31)).heap[w.heap.size + 1]? = some (.cells #[.int .i64 0, .int .i64 0, .int .i64 0, .string ⟨#[]⟩, .slice none 0 0, .bool false] 31 (0, 0))) := Lib.hid (by have := blk_new (w.alloc (.cells #[.pointer (some ⟨g0, 0, none⟩), .pointer (some ⟨g1, 0, none⟩), .pointer (some ⟨g2, 0, none⟩)] 71)) (.cells #[.int .i64 0, .int .i64 0, .int .i64 0, .string ⟨#[]⟩, .slice none 0 0, .bool false] 31); simpa using this)
  have HZ0 := Lib.hid (blk_alloc (blk_new w (.cells #[.pointer (some ⟨g0, 0, none⟩), .pointer (some ⟨g1, 0, none⟩), .pointer (some ⟨g2, 0, none⟩)] 71)) (.cells #[.int .i64 0, .int .i64 0, .int .i64 0, .string ⟨#[]⟩, .slice none 0 0, .bool false] 31))
  have HH0 := Lib.hid h0
  have HH1 := Lib.hid h1
  have HH2 := Lib.hid h2
  have HO0 := Lib.hid hO0
  have HO1 := Lib.hid hO1
  have HO2 := Lib.hid hO2
  have HN0 := Lib.hid hn0
  have HN1 := Lib.hid hn1
  have HN2 := Lib.hid hn2
  have HID := Lib.hid hid
  clear h0 h1 h2 hO0 hO1 hO2 hn0 hn1 hn2 hid
  obtain ⟨j0, hj0⟩ : ∃ j, getJ l0 id = j := ⟨_, rfl⟩
  obtain ⟨j1, hj1⟩ : ∃ j, getJ l1 id = j := ⟨_, rfl⟩
  obtain ⟨j2, hj2⟩ : ∃ j, getJ l2 id = j := ⟨_, rfl⟩
  rw [hj0, hj1, hj2]
  have HJ0 := Lib.hid hj0
  have HJ1 := Lib.hid hj1
  have HJ2 := Lib.hid hj2
  clear hj0 hj1 hj2
  go_enter Try.func52, Try.ntmps52
  go_wp2_with fail
  refine abs_world (S := fun wx => wx.heap[w.heap.size]? = some (.cells #[.pointer (some ⟨g0, 0, none⟩), .pointer (some ⟨g1, 0, none⟩), .pointer (some ⟨g2, 0, none⟩)] 71 (0, 0)) ∧ wx.heap[w.heap.size + 1]? = some (.cells #[.int .i64 0, .int .i64 0, .int .i64 0, .string ⟨#[]⟩, .slice none 0 0, .bool false] 31 (0, 0)) ∧ Below w.heap.size w wx) ?_ ⟨HZ0.out, HZ1.out, HB.out⟩
  rintro wx ⟨hsd, hz4, hbx⟩
  have HSD := Lib.hid hsd
  have HZ4 := Lib.hid hz4
  have HBX := Lib.hid hbx
  have HK0 := Lib.hid (HH0.out.below hbx)
  have HK1 := Lib.hid (HH1.out.below hbx)
  have HK2 := Lib.hid (HH2.out.below hbx)
  have hsl := blk_lt hsd
  have hzl4 := blk_lt hz4
  clear hsd hz4 hbx HB HZ0 HZ1
  refine wp_region_inv (by kernel_rfl) (by kernel_rfl) (by kernel_rfl) (OneS wx.heap.size wx (.agg #[.pointer (some ⟨g0, 0, none⟩), .pointer (some ⟨g1, 0, none⟩), .pointer (some ⟨g2, 0, none⟩)]) (.int .i64 id) (ptr w.heap.size) (ptr (w.heap.size + 1)) j0 j1 j2) (fun d d' a w h H => OneS.congr h H) ?_ ?_ ?_
  · refine ⟨undef, undef, undef, undef, undef, undef, undef, undef, undef, undef, undef, undef, rfl, ?_⟩
    exact ⟨(Below.refl _ _).drew, by simp, by simp, by simp, by simp, by simp, by simp, by simp, by simp, by simp, fun _ => rfl, by simp, fun _ => rfl, by simp, fun _ => rfl, by simp, by simp, by simp, by simp, by simp, by simp, by simp, by simp, by simp, by simp⟩
  · intro d a w3 hd H
    obtain ⟨x6, x7, x8, x9, x10, x11, x12, x13, x14, x15, x16, x17, rfl, H⟩ := H
    obtain ⟨b6, a6, c6, rfl, hB6, hc6, hr6⟩ := H.s6 (hd 12 (by decide))
    obtain ⟨b7, a7, c7, rfl, hB7, hc7, hr7⟩ := H.s7 (hd 13 (by decide))
    obtain ⟨b8, a8, c8, rfl, hB8, hc8, hr8⟩ := H.s8 (hd 14 (by decide))
    have hB := H.bel.size
    have HB3 := Lib.hid (HBX.out.trans (H.bel.mono HBX.out.size))
    have HZ43 := Lib.hid ((H.bel.block _ hzl4).trans HZ4.out)
    have HC6 := Lib.hid hc6
    have HC7 := Lib.hid hc7
    have HC8 := Lib.hid hc8
    have HR6 := Lib.hid hr6
    have HR7 := Lib.hid hr7
    have HR8 := Lib.hid hr8
    have hz6 := blk_cells hc6
    have hz7 := blk_cells hc7
    have hz8 := blk_cells hc8
    have hl6 := blk_lt hc6
    have hl7 := blk_lt hc7
    have hl8 := blk_lt hc8
    have hbx := HBX.out.size
    clear H hd hc6 hc7 hc8 hr6 hr7 hr8
    cases s1 : sameJ j1 j2
    · have S1 := Lib.hid (same_R HR7.out HR8.out s1)
      go_wp2_with fail
      refine S1.out.mono ?_
      rintro en w5 ⟨rfl, hb⟩
      have HB3 := Lib.hid (belows_then HB3.out HB3.out.size hb)
      have HZ43 := Lib.hid (blk_below HZ43.out hb)
      have HC6 := Lib.hid (blk_below HC6.out hb)
      have HC7 := Lib.hid (blk_below HC7.out hb)
      have HC8 := Lib.hid (blk_below HC8.out hb)
      have HR6 := Lib.hid (tJn.keep (fun k hk _ => hb.block k hk) HR6.out)
      have HR7 := Lib.hid (tJn.keep (fun k hk _ => hb.block k hk) HR7.out)
      have HR8 := Lib.hid (tJn.keep (fun k hk _ => hb.block k hk) HR8.out)
      clear hb hz6 hz7 hz8 hl6 hl7 hl8
      have hz6 := blk_cells HC6.out
      have hz7 := blk_cells HC7.out
      have hz8 := blk_cells HC8.out
      have hl6 := blk_lt HC6.out
      have hl7 := blk_lt HC7.out
      have hl8 := blk_lt HC8.out
      cases s2 : sameJ j0 j2
      · have S2 := Lib.hid (same_R HR6.out HR8.out s2)
        go_wp2_with fail
        refine S2.out.mono ?_
        rintro en w6 ⟨rfl, hb⟩
        have HB3 := Lib.hid (belows_then HB3.out HB3.out.size hb)
        have HZ43 := Lib.hid (blk_below HZ43.out hb)
        have HC6 := Lib.hid (blk_below HC6.out hb)
        have HC7 := Lib.hid (blk_below HC7.out hb)
        have HC8 := Lib.hid (blk_below HC8.out hb)
        have HR6 := Lib.hid (tJn.keep (fun k hk _ => hb.block k hk) HR6.out)
        have HR7 := Lib.hid (tJn.keep (fun k hk _ => hb.block k hk) HR7.out)
        have HR8 := Lib.hid (tJn.keep (fun k hk _ => hb.block k hk) HR8.out)
        clear hb hz6 hz7 hz8 hl6 hl7 hl8
        have hz6 := blk_cells HC6.out
        have hz7 := blk_cells HC7.out
        have hz8 := blk_cells HC8.out
        have hl6 := blk_lt HC6.out
        have hl7 := blk_lt HC7.out
        have hl8 := blk_lt HC8.out
        cases s3 : sameJ j0 j1
        · have S3 := Lib.hid (same_R HR6.out HR7.out s3)
          go_wp2_with fail
          refine S3.out.mono ?_
          rintro en w7 ⟨rfl, hb⟩
          have HB3 := Lib.hid (belows_then HB3.out HB3.out.size hb)
          have HZ43 := Lib.hid (blk_below HZ43.out hb)
          have HC6 := Lib.hid (blk_below HC6.out hb)
          have HC7 := Lib.hid (blk_below HC7.out hb)
          have HC8 := Lib.hid (blk_below HC8.out hb)
          have HR6 := Lib.hid (tJn.keep (fun k hk _ => hb.block k hk) HR6.out)
          have HR7 := Lib.hid (tJn.keep (fun k hk _ => hb.block k hk) HR7.out)
          have HR8 := Lib.hid (tJn.keep (fun k hk _ => hb.block k hk) HR8.out)
          clear hb hz6 hz7 hz8 hl6 hl7 hl8
          have hz6 := blk_cells HC6.out
          have hz7 := blk_cells HC7.out
          have hz8 := blk_cells HC8.out
          have hl6 := blk_lt HC6.out
          have hl7 := blk_lt HC7.out
          have hl8 := blk_lt HC8.out
          obtain ⟨p, hp⟩ : ∃ p, goneJ j1 = p := ⟨_, rfl⟩
          obtain ⟨q, hq⟩ : ∃ q, goneJ j2 = q := ⟨_, rfl⟩
          have HP := Lib.hid hp
          have HQ := Lib.hid hq
          have HE0 : Hid (oneJ j0 j1 j2 = if p != q then (jn0, 2) else (jn0, 1)) := Lib.hid (by unfold oneJ; rw [s1, s2, s3, hp, hq]; rfl)
          clear s1 s2 s3 hp hq
          cases p <;> cases q
          · have HE : Hid (oneJ j0 j1 j2 = (jn0, 1)) := Lib.hid HE0.out
            go_wp2_with fail
            go_region_law (first
              | (refine step_call rfl 68 #[jnv j1 a7 c7] (by simp [execOp, resolve, invoke, Act.eval, Act.put, go_sem]) ?_; refine (gone_is HP.out a7 c7 _).mono ?_; rintro en w10 ⟨rfl, hb⟩; refine ⟨_, rfl, ?_⟩; have HB10 : Hid (Below w7.heap.size w7 w10) := Lib.hid ((Below.drew (Below.refl _ w7)).trans hb); have hz10 := blk_cells (blk_below HC8.out HB10.out); have hl10 := blk_lt (blk_below HC8.out HB10.out); clear hb)
              | (refine step_call rfl 68 #[jnv j2 a8 c8] (by simp [execOp, resolve, invoke, Act.eval, Act.put, go_sem]) ?_; refine (gone_is HQ.out a8 c8 w10).mono ?_; rintro en w11 ⟨rfl, hb⟩; refine ⟨_, rfl, ?_⟩; have HB11 : Hid (Below w7.heap.size w7 w11) := Lib.hid (belows_then HB10.out HB10.out.size hb); have HB3 := Lib.hid (belows_then HB3.out HB3.out.size HB11.out); have HZ43 := Lib.hid (blk_below HZ43.out HB11.out); clear hb))
            all_goals
              have hz4 := blk_cells HZ43.out
              have hzf4 := blk_frz HZ43.out
              have hzl5 := blk_lt HZ43.out
              go_wp2_with fail
              obtain ⟨w9, hw9, h9, hs9, hk9, hb9⟩ := six w11 (w.heap.size + 1) HZ43.out (.int .i64 0) (.int .i64 0) (.int .i64 0) (.string ⟨#[]⟩) (.slice none 0 0) (.bool false)
              rw [hw9]
              clear hw9
              refine bodyPost_ret (v := .tuple #[jnv jn0 none 0, .int .i64 1]) (results_row_tmp (fn := Try.f52) (p := 4) (ty := 31) rfl _ _ (w.heap.size + 1) 31 _ (0, 0) _ rfl h9 Try.underlying31 rfl (by kernel_rfl)) rfl ?_
              rw [HE.out]
              exact ⟨none, 0, rfl, jn0_R _ _, hb9 _ _ HB3.out (by omega)⟩
          · have HE : Hid (oneJ j0 j1 j2 = (jn0, 2)) := Lib.hid HE0.out
            go_wp2_with fail
            go_region_law (first
              | (refine step_call rfl 68 #[jnv j1 a7 c7] (by simp [execOp, resolve, invoke, Act.eval, Act.put, go_sem]) ?_; refine (gone_is HP.out a7 c7 _).mono ?_; rintro en w10 ⟨rfl, hb⟩; refine ⟨_, rfl, ?_⟩; have HB10 : Hid (Below w7.heap.size w7 w10) := Lib.hid ((Below.drew (Below.refl _ w7)).trans hb); have hz10 := blk_cells (blk_below HC8.out HB10.out); have hl10 := blk_lt (blk_below HC8.out HB10.out); clear hb)
              | (refine step_call rfl 68 #[jnv j2 a8 c8] (by simp [execOp, resolve, invoke, Act.eval, Act.put, go_sem]) ?_; refine (gone_is HQ.out a8 c8 w10).mono ?_; rintro en w11 ⟨rfl, hb⟩; refine ⟨_, rfl, ?_⟩; have HB11 : Hid (Below w7.heap.size w7 w11) := Lib.hid (belows_then HB10.out HB10.out.size hb); have HB3 := Lib.hid (belows_then HB3.out HB3.out.size HB11.out); have HZ43 := Lib.hid (blk_below HZ43.out HB11.out); clear hb))
            all_goals
              have hz4 := blk_cells HZ43.out
              have hzf4 := blk_frz HZ43.out
              have hzl5 := blk_lt HZ43.out
              go_wp2_with fail
              obtain ⟨w9, hw9, h9, hs9, hk9, hb9⟩ := six w11 (w.heap.size + 1) HZ43.out (.int .i64 0) (.int .i64 0) (.int .i64 0) (.string ⟨#[]⟩) (.slice none 0 0) (.bool false)
              rw [hw9]
              clear hw9
              refine bodyPost_ret (v := .tuple #[jnv jn0 none 0, .int .i64 2]) (results_row_tmp (fn := Try.f52) (p := 4) (ty := 31) rfl _ _ (w.heap.size + 1) 31 _ (0, 0) _ rfl h9 Try.underlying31 rfl (by kernel_rfl)) rfl ?_
              rw [HE.out]
              exact ⟨none, 0, rfl, jn0_R _ _, hb9 _ _ HB3.out (by omega)⟩
          · have HE : Hid (oneJ j0 j1 j2 = (jn0, 2)) := Lib.hid HE0.out
            go_wp2_with fail
            go_region_law (first
              | (refine step_call rfl 68 #[jnv j1 a7 c7] (by simp [execOp, resolve, invoke, Act.eval, Act.put, go_sem]) ?_; refine (gone_is HP.out a7 c7 _).mono ?_; rintro en w10 ⟨rfl, hb⟩; refine ⟨_, rfl, ?_⟩; have HB10 : Hid (Below w7.heap.size w7 w10) := Lib.hid ((Below.drew (Below.refl _ w7)).trans hb); have hz10 := blk_cells (blk_below HC8.out HB10.out); have hl10 := blk_lt (blk_below HC8.out HB10.out); clear hb)
              | (refine step_call rfl 68 #[jnv j2 a8 c8] (by simp [execOp, resolve, invoke, Act.eval, Act.put, go_sem]) ?_; refine (gone_is HQ.out a8 c8 w10).mono ?_; rintro en w11 ⟨rfl, hb⟩; refine ⟨_, rfl, ?_⟩; have HB11 : Hid (Below w7.heap.size w7 w11) := Lib.hid (belows_then HB10.out HB10.out.size hb); have HB3 := Lib.hid (belows_then HB3.out HB3.out.size HB11.out); have HZ43 := Lib.hid (blk_below HZ43.out HB11.out); clear hb))
            all_goals
              have hz4 := blk_cells HZ43.out
              have hzf4 := blk_frz HZ43.out
              have hzl5 := blk_lt HZ43.out
              go_wp2_with fail
              obtain ⟨w9, hw9, h9, hs9, hk9, hb9⟩ := six w11 (w.heap.size + 1) HZ43.out (.int .i64 0) (.int .i64 0) (.int .i64 0) (.string ⟨#[]⟩) (.slice none 0 0) (.bool false)
              rw [hw9]
              clear hw9
              refine bodyPost_ret (v := .tuple #[jnv jn0 none 0, .int .i64 2]) (results_row_tmp (fn := Try.f52) (p := 4) (ty := 31) rfl _ _ (w.heap.size + 1) 31 _ (0, 0) _ rfl h9 Try.underlying31 rfl (by kernel_rfl)) rfl ?_
              rw [HE.out]
              exact ⟨none, 0, rfl, jn0_R _ _, hb9 _ _ HB3.out (by omega)⟩
          · have HE : Hid (oneJ j0 j1 j2 = (jn0, 1)) := Lib.hid HE0.out
            go_wp2_with fail
            go_region_law (first
              | (refine step_call rfl 68 #[jnv j1 a7 c7] (by simp [execOp, resolve, invoke, Act.eval, Act.put, go_sem]) ?_; refine (gone_is HP.out a7 c7 _).mono ?_; rintro en w10 ⟨rfl, hb⟩; refine ⟨_, rfl, ?_⟩; have HB10 : Hid (Below w7.heap.size w7 w10) := Lib.hid ((Below.drew (Below.refl _ w7)).trans hb); have hz10 := blk_cells (blk_below HC8.out HB10.out); have hl10 := blk_lt (blk_below HC8.out HB10.out); clear hb)
              | (refine step_call rfl 68 #[jnv j2 a8 c8] (by simp [execOp, resolve, invoke, Act.eval, Act.put, go_sem]) ?_; refine (gone_is HQ.out a8 c8 w10).mono ?_; rintro en w11 ⟨rfl, hb⟩; refine ⟨_, rfl, ?_⟩; have HB11 : Hid (Below w7.heap.size w7 w11) := Lib.hid (belows_then HB10.out HB10.out.size hb); have HB3 := Lib.hid (belows_then HB3.out HB3.out.size HB11.out); have HZ43 := Lib.hid (blk_below HZ43.out HB11.out); clear hb))
            all_goals
              have hz4 := blk_cells HZ43.out
              have hzf4 := blk_frz HZ43.out
              have hzl5 := blk_lt HZ43.out
              go_wp2_with fail
              obtain ⟨w9, hw9, h9, hs9, hk9, hb9⟩ := six w11 (w.heap.size + 1) HZ43.out (.int .i64 0) (.int .i64 0) (.int .i64 0) (.string ⟨#[]⟩) (.slice none 0 0) (.bool false)
              rw [hw9]
              clear hw9
              refine bodyPost_ret (v := .tuple #[jnv jn0 none 0, .int .i64 1]) (results_row_tmp (fn := Try.f52) (p := 4) (ty := 31) rfl _ _ (w.heap.size + 1) 31 _ (0, 0) _ rfl h9 Try.underlying31 rfl (by kernel_rfl)) rfl ?_
              rw [HE.out]
              exact ⟨none, 0, rfl, jn0_R _ _, hb9 _ _ HB3.out (by omega)⟩
        · have HE : Hid (oneJ j0 j1 j2 = (j2, 0)) := Lib.hid (by unfold oneJ; rw [s1, s2, s3]; rfl)
          have S3 := Lib.hid (same_R HR6.out HR7.out s3)
          clear s1 s2 s3
          go_wp2_with fail
          refine S3.out.mono ?_
          rintro en w7 ⟨rfl, hb⟩
          have HB3 := Lib.hid (belows_then HB3.out HB3.out.size hb)
          have HZ43 := Lib.hid (blk_below HZ43.out hb)
          have HC6 := Lib.hid (blk_below HC6.out hb)
          have HC7 := Lib.hid (blk_below HC7.out hb)
          have HC8 := Lib.hid (blk_below HC8.out hb)
          have HR6 := Lib.hid (tJn.keep (fun k hk _ => hb.block k hk) HR6.out)
          have HR7 := Lib.hid (tJn.keep (fun k hk _ => hb.block k hk) HR7.out)
          have HR8 := Lib.hid (tJn.keep (fun k hk _ => hb.block k hk) HR8.out)
          clear hb hz6 hz7 hz8 hl6 hl7 hl8
          have hz6 := blk_cells HC6.out
          have hz7 := blk_cells HC7.out
          have hz8 := blk_cells HC8.out
          have hl6 := blk_lt HC6.out
          have hl7 := blk_lt HC7.out
          have hl8 := blk_lt HC8.out
          have hz4 := blk_cells HZ43.out
          have hzf4 := blk_frz HZ43.out
          have hzl5 := blk_lt HZ43.out
          go_wp2_with fail
          obtain ⟨w9, hw9, h9, hs9, hk9, hb9⟩ := six w7 (w.heap.size + 1) HZ43.out (.int .i64 j2.id) (.int .i64 j2.en) (.int .i64 j2.pe) (.string j2.ref) (.slice a8 j2.lines.length c8) (.bool j2.void)
          rw [hw9]
          clear hw9
          refine bodyPost_ret (v := .tuple #[jnv j2 a8 c8, .int .i64 0]) (results_row_tmp (fn := Try.f52) (p := 4) (ty := 31) rfl _ _ (w.heap.size + 1) 31 _ (0, 0) _ rfl h9 Try.underlying31 rfl (by kernel_rfl)) rfl ?_
          rw [HE.out]
          refine ⟨a8, c8, rfl, ?_, hb9 _ _ HB3.out (by omega)⟩
          exact tJn.mono (fun kk hk hf => (⟨by have := hf.1; omega, hk⟩ : w.heap.size ≤ kk ∧ kk < _)) (tJn.keep (fun kk hkk hf => hk9 kk (by have := hf.1; omega)) HR8.out)
      · have HE : Hid (oneJ j0 j1 j2 = (j1, 0)) := Lib.hid (by unfold oneJ; rw [s1, s2]; rfl)
        have S2 := Lib.hid (same_R HR6.out HR8.out s2)
        clear s1 s2
        go_wp2_with fail
        refine S2.out.mono ?_
        rintro en w6 ⟨rfl, hb⟩
        have HB3 := Lib.hid (belows_then HB3.out HB3.out.size hb)
        have HZ43 := Lib.hid (blk_below HZ43.out hb)
        have HC6 := Lib.hid (blk_below HC6.out hb)
        have HC7 := Lib.hid (blk_below HC7.out hb)
        have HC8 := Lib.hid (blk_below HC8.out hb)
        have HR6 := Lib.hid (tJn.keep (fun k hk _ => hb.block k hk) HR6.out)
        have HR7 := Lib.hid (tJn.keep (fun k hk _ => hb.block k hk) HR7.out)
        have HR8 := Lib.hid (tJn.keep (fun k hk _ => hb.block k hk) HR8.out)
        clear hb hz6 hz7 hz8 hl6 hl7 hl8
        have hz6 := blk_cells HC6.out
        have hz7 := blk_cells HC7.out
        have hz8 := blk_cells HC8.out
        have hl6 := blk_lt HC6.out
        have hl7 := blk_lt HC7.out
        have hl8 := blk_lt HC8.out
        have hz4 := blk_cells HZ43.out
        have hzf4 := blk_frz HZ43.out
        have hzl5 := blk_lt HZ43.out
        go_wp2_with fail
        obtain ⟨w9, hw9, h9, hs9, hk9, hb9⟩ := six w6 (w.heap.size + 1) HZ43.out (.int .i64 j1.id) (.int .i64 j1.en) (.int .i64 j1.pe) (.string j1.ref) (.slice a7 j1.lines.length c7) (.bool j1.void)
        rw [hw9]
        clear hw9
        refine bodyPost_ret (v := .tuple #[jnv j1 a7 c7, .int .i64 0]) (results_row_tmp (fn := Try.f52) (p := 4) (ty := 31) rfl _ _ (w.heap.size + 1) 31 _ (0, 0) _ rfl h9 Try.underlying31 rfl (by kernel_rfl)) rfl ?_
        rw [HE.out]
        refine ⟨a7, c7, rfl, ?_, hb9 _ _ HB3.out (by omega)⟩
        exact tJn.mono (fun kk hk hf => (⟨by have := hf.1; omega, hk⟩ : w.heap.size ≤ kk ∧ kk < _)) (tJn.keep (fun kk hkk hf => hk9 kk (by have := hf.1; omega)) HR7.out)
    · have HE : Hid (oneJ j0 j1 j2 = (j1, 0)) := Lib.hid (by unfold oneJ; rw [s1]; rfl)
      have S1 := Lib.hid (same_R HR7.out HR8.out s1)
      clear s1
      go_wp2_with fail
      refine S1.out.mono ?_
      rintro en w5 ⟨rfl, hb⟩
      have HB3 := Lib.hid (belows_then HB3.out HB3.out.size hb)
      have HZ43 := Lib.hid (blk_below HZ43.out hb)
      have HC6 := Lib.hid (blk_below HC6.out hb)
      have HC7 := Lib.hid (blk_below HC7.out hb)
      have HC8 := Lib.hid (blk_below HC8.out hb)
      have HR6 := Lib.hid (tJn.keep (fun k hk _ => hb.block k hk) HR6.out)
      have HR7 := Lib.hid (tJn.keep (fun k hk _ => hb.block k hk) HR7.out)
      have HR8 := Lib.hid (tJn.keep (fun k hk _ => hb.block k hk) HR8.out)
      clear hb hz6 hz7 hz8 hl6 hl7 hl8
      have hz6 := blk_cells HC6.out
      have hz7 := blk_cells HC7.out
      have hz8 := blk_cells HC8.out
      have hl6 := blk_lt HC6.out
      have hl7 := blk_lt HC7.out
      have hl8 := blk_lt HC8.out
      have hz4 := blk_cells HZ43.out
      have hzf4 := blk_frz HZ43.out
      have hzl5 := blk_lt HZ43.out
      go_wp2_with fail
      obtain ⟨w9, hw9, h9, hs9, hk9, hb9⟩ := six w5 (w.heap.size + 1) HZ43.out (.int .i64 j1.id) (.int .i64 j1.en) (.int .i64 j1.pe) (.string j1.ref) (.slice a7 j1.lines.length c7) (.bool j1.void)
      rw [hw9]
      clear hw9
      refine bodyPost_ret (v := .tuple #[jnv j1 a7 c7, .int .i64 0]) (results_row_tmp (fn := Try.f52) (p := 4) (ty := 31) rfl _ _ (w.heap.size + 1) 31 _ (0, 0) _ rfl h9 Try.underlying31 rfl (by kernel_rfl)) rfl ?_
      rw [HE.out]
      refine ⟨a7, c7, rfl, ?_, hb9 _ _ HB3.out (by omega)⟩
      exact tJn.mono (fun kk hk hf => (⟨by have := hf.1; omega, hk⟩ : w.heap.size ≤ kk ∧ kk < _)) (tJn.keep (fun kk hkk hf => hk9 kk (by have := hf.1; omega)) HR7.out)
  · refine ⟨?_, ?_, ?_, ?_, ?_, ?_, ?_, ?_, ?_, ?_, ?_, ?_, ?_, ?_, ?_, trivial⟩
    · intro d a wr H hk hdep
      refine inv_step (fun K hK => ?_)
      obtain ⟨x6, x7, x8, x9, x10, x11, x12, x13, x14, x15, x16, x17, rfl, H⟩ := H
      have hB := H.bel.size
      have HH := Lib.hid H
      have hsc := blk_cells ((H.bel.block _ hsl).trans HSD.out)
      have hsq := Nat.lt_of_lt_of_le hsl hB
      clear H hdep hk
      unfold Oper.wp
      go_simp
      have H := HH.out
      refine hK _ _ ⟨x6, x7, x8, _, x10, x11, x12, x13, x14, x15, x16, x17, rfl, ?_⟩
      exact ⟨H.bel, fun _ => rfl, H.m10, H.c11, H.l12, H.m13, H.c14, H.l15, H.m16, H.c17, H.u6, H.a6, H.u7, H.a7, H.u8, H.a8, H.n67, H.n68, H.n78, H.q12, H.q13, H.q14, H.s6, H.s7, H.s8⟩
    · intro d a wr H hk hdep
      refine inv_step (fun K hK => ?_)
      obtain ⟨x6, x7, x8, x9, x10, x11, x12, x13, x14, x15, x16, x17, rfl, H⟩ := H
      have hB := H.bel.size
      have HH := Lib.hid H
      clear H hdep hk
      unfold Oper.wp
      go_simp
      have H := HH.out
      refine hK _ _ ⟨x6, x7, x8, x9, _, x11, x12, x13, x14, x15, x16, x17, rfl, ?_⟩
      exact ⟨H.bel, H.l9, fun _ => rfl, H.c11, H.l12, H.m13, H.c14, H.l15, H.m16, H.c17, H.u6, H.a6, H.u7, H.a7, H.u8, H.a8, H.n67, H.n68, H.n78, H.q12, H.q13, H.q14, H.s6, H.s7, H.s8⟩
    · intro d a wr H hk hdep
      refine inv_step (fun K hK => ?_)
      obtain ⟨x6, x7, x8, x9, x10, x11, x12, x13, x14, x15, x16, x17, rfl, H⟩ := H
      have hB := H.bel.size
      have HH := Lib.hid H
      simp [Region.binds] at hdep
      obtain rfl := H.l9 (by first | exact hdep.1 | exact hdep)
      obtain rfl := H.m10 (by first | exact hdep.2.1 | exact hdep.2)
      clear H hdep hk
      unfold Oper.wp
      go_simp
      refine (ofBase_any (HK0.out.below HH.out.bel) hl0 HO0.out HN0.out id HID.out).mono ?_
      rintro en w2 ⟨a2, c2, rfl, hr, hb⟩
      rw [HJ0.out] at hr ⊢
      have G := HH.out.grow hb hB
      have H := HH.out
      try go_simp
      refine hK _ _ ⟨x6, x7, x8, _, _, _, x12, x13, x14, x15, x16, x17, rfl, ?_⟩
      exact ⟨G.bel, G.l9, G.m10, fun _ => ⟨a2, c2, rfl, tJn.mono (fun k _ hf => H.far hf.1 (Nat.le_trans hB hf.1)) hr⟩, G.l12, G.m13, G.c14, G.l15, G.m16, G.c17, G.u6, G.a6, G.u7, G.a7, G.u8, G.a8, G.n67, G.n68, G.n78, G.q12, G.q13, G.q14, G.s6, G.s7, G.s8⟩
    · intro d a wr H hk hdep
      refine inv_step (fun K hK => ?_)
      obtain ⟨x6, x7, x8, x9, x10, x11, x12, x13, x14, x15, x16, x17, rfl, H⟩ := H
      have hB := H.bel.size
      have HH := Lib.hid H
      have hsc := blk_cells ((H.bel.block _ hsl).trans HSD.out)
      have hsq := Nat.lt_of_lt_of_le hsl hB
      clear H hdep hk
      unfold Oper.wp
      go_simp
      have H := HH.out
      refine hK _ _ ⟨x6, x7, x8, x9, x10, x11, _, x13, x14, x15, x16, x17, rfl, ?_⟩
      exact ⟨H.bel, H.l9, H.m10, H.c11, fun _ => rfl, H.m13, H.c14, H.l15, H.m16, H.c17, H.u6, H.a6, H.u7, H.a7, H.u8, H.a8, H.n67, H.n68, H.n78, H.q12, H.q13, H.q14, H.s6, H.s7, H.s8⟩
    · intro d a wr H hk hdep
      refine inv_step (fun K hK => ?_)
      obtain ⟨x6, x7, x8, x9, x10, x11, x12, x13, x14, x15, x16, x17, rfl, H⟩ := H
      have hB := H.bel.size
      have HH := Lib.hid H
      clear H hdep hk
      unfold Oper.wp
      go_simp
      have H := HH.out
      refine hK _ _ ⟨x6, x7, x8, x9, x10, x11, x12, _, x14, x15, x16, x17, rfl, ?_⟩
      exact ⟨H.bel, H.l9, H.m10, H.c11, H.l12, fun _ => rfl, H.c14, H.l15, H.m16, H.c17, H.u6, H.a6, H.u7, H.a7, H.u8, H.a8, H.n67, H.n68, H.n78, H.q12, H.q13, H.q14, H.s6, H.s7, H.s8⟩
    · intro d a wr H hk hdep
      refine inv_step (fun K hK => ?_)
      obtain ⟨x6, x7, x8, x9, x10, x11, x12, x13, x14, x15, x16, x17, rfl, H⟩ := H
      have hB := H.bel.size
      have HH := Lib.hid H
      simp [Region.binds] at hdep
      obtain rfl := H.l12 (by first | exact hdep.1 | exact hdep)
      obtain rfl := H.m13 (by first | exact hdep.2.1 | exact hdep.2)
      clear H hdep hk
      unfold Oper.wp
      go_simp
      refine (ofOurs_any (HK1.out.below HH.out.bel) hl1 HO1.out HN1.out id HID.out).mono ?_
      rintro en w2 ⟨a2, c2, rfl, hr, hb⟩
      rw [HJ1.out] at hr ⊢
      have G := HH.out.grow hb hB
      have H := HH.out
      try go_simp
      refine hK _ _ ⟨x6, x7, x8, x9, x10, x11, _, _, _, x15, x16, x17, rfl, ?_⟩
      exact ⟨G.bel, G.l9, G.m10, G.c11, G.l12, G.m13, fun _ => ⟨a2, c2, rfl, tJn.mono (fun k _ hf => H.far hf.1 (Nat.le_trans hB hf.1)) hr⟩, G.l15, G.m16, G.c17, G.u6, G.a6, G.u7, G.a7, G.u8, G.a8, G.n67, G.n68, G.n78, G.q12, G.q13, G.q14, G.s6, G.s7, G.s8⟩
    · intro d a wr H hk hdep
      refine inv_step (fun K hK => ?_)
      obtain ⟨x6, x7, x8, x9, x10, x11, x12, x13, x14, x15, x16, x17, rfl, H⟩ := H
      have hB := H.bel.size
      have HH := Lib.hid H
      have hsc := blk_cells ((H.bel.block _ hsl).trans HSD.out)
      have hsq := Nat.lt_of_lt_of_le hsl hB
      clear H hdep hk
      unfold Oper.wp
      go_simp
      have H := HH.out
      refine hK _ _ ⟨x6, x7, x8, x9, x10, x11, x12, x13, x14, _, x16, x17, rfl, ?_⟩
      exact ⟨H.bel, H.l9, H.m10, H.c11, H.l12, H.m13, H.c14, fun _ => rfl, H.m16, H.c17, H.u6, H.a6, H.u7, H.a7, H.u8, H.a8, H.n67, H.n68, H.n78, H.q12, H.q13, H.q14, H.s6, H.s7, H.s8⟩
    · intro d a wr H hk hdep
      refine inv_step (fun K hK => ?_)
      obtain ⟨x6, x7, x8, x9, x10, x11, x12, x13, x14, x15, x16, x17, rfl, H⟩ := H
      have hB := H.bel.size
      have HH := Lib.hid H
      clear H hdep hk
      unfold Oper.wp
      go_simp
      have H := HH.out
      refine hK _ _ ⟨x6, x7, x8, x9, x10, x11, x12, x13, x14, x15, _, x17, rfl, ?_⟩
      exact ⟨H.bel, H.l9, H.m10, H.c11, H.l12, H.m13, H.c14, H.l15, fun _ => rfl, H.c17, H.u6, H.a6, H.u7, H.a7, H.u8, H.a8, H.n67, H.n68, H.n78, H.q12, H.q13, H.q14, H.s6, H.s7, H.s8⟩
    · intro d a wr H hk hdep
      refine inv_step (fun K hK => ?_)
      obtain ⟨x6, x7, x8, x9, x10, x11, x12, x13, x14, x15, x16, x17, rfl, H⟩ := H
      have hB := H.bel.size
      have HH := Lib.hid H
      simp [Region.binds] at hdep
      obtain rfl := H.l15 (by first | exact hdep.1 | exact hdep)
      obtain rfl := H.m16 (by first | exact hdep.2.1 | exact hdep.2)
      clear H hdep hk
      unfold Oper.wp
      go_simp
      refine (ofTheirs_any (HK2.out.below HH.out.bel) hl2 HO2.out HN2.out id HID.out).mono ?_
      rintro en w2 ⟨a2, c2, rfl, hr, hb⟩
      rw [HJ2.out] at hr ⊢
      have G := HH.out.grow hb hB
      have H := HH.out
      try go_simp
      refine hK _ _ ⟨x6, x7, x8, x9, x10, x11, x12, x13, x14, _, _, _, rfl, ?_⟩
      exact ⟨G.bel, G.l9, G.m10, G.c11, G.l12, G.m13, G.c14, G.l15, G.m16, fun _ => ⟨a2, c2, rfl, tJn.mono (fun k _ hf => H.far hf.1 (Nat.le_trans hB hf.1)) hr⟩, G.u6, G.a6, G.u7, G.a7, G.u8, G.a8, G.n67, G.n68, G.n78, G.q12, G.q13, G.q14, G.s6, G.s7, G.s8⟩
    · intro d a wr H hk hdep
      refine inv_step (fun K hK => ?_)
      obtain ⟨x6, x7, x8, x9, x10, x11, x12, x13, x14, x15, x16, x17, rfl, H⟩ := H
      have hB := H.bel.size
      have HH := Lib.hid H
      have hno : ¬ d 12 = true := fun h12 => by have := (H.q12 h12).1; rw [hk] at this; cases this
      clear H hdep
      unfold Oper.wp
      go_simp
      have H := HH.out
      have G := H.grow (w' := wr.alloc (.cells #[.int .i64 0, .int .i64 0, .int .i64 0, .string ⟨#[]⟩, .slice none 0 0, .bool false] 31)) ((Below.refl _ _).alloc (Nat.le_refl _) _) hB
      have hfar := H.far (Nat.le_refl _) hB
      refine hK _ _ ⟨_, x7, x8, x9, x10, x11, x12, x13, x14, x15, x16, x17, rfl, ?_⟩
      exact ⟨G.bel, H.l9, H.m10, fun h => (H.c11 h).new6 _, H.l12, H.m13, fun h => (H.c14 h).new6 _, H.l15, H.m16, fun h => (H.c17 h).new6 _, fun h => absurd h (by simp [updD]), fun _ => PZ.new hB _ _ _ _ _ _, H.u7, G.a7, H.u8, G.a8, fun _ => Ne.symm hfar.2.2.1, fun _ => Ne.symm hfar.2.2.2, H.n78, fun h => absurd h hno, fun h => absurd (H.q13 h) hno, H.q14, fun h => absurd h hno, fun h => absurd (H.q13 h) hno, fun h => absurd (H.q13 (H.q14 h)) hno⟩
    · intro d a wr H hk hdep
      refine inv_step (fun K hK => ?_)
      obtain ⟨x6, x7, x8, x9, x10, x11, x12, x13, x14, x15, x16, x17, rfl, H⟩ := H
      have hB := H.bel.size
      have HH := Lib.hid H
      have hno : ¬ d 12 = true := fun h12 => by have := (H.q12 h12).2.1; rw [hk] at this; cases this
      clear H hdep
      unfold Oper.wp
      go_simp
      have H := HH.out
      have G := H.grow (w' := wr.alloc (.cells #[.int .i64 0, .int .i64 0, .int .i64 0, .string ⟨#[]⟩, .slice none 0 0, .bool false] 31)) ((Below.refl _ _).alloc (Nat.le_refl _) _) hB
      have hfar := H.far (Nat.le_refl _) hB
      refine hK _ _ ⟨x6, _, x8, x9, x10, x11, x12, x13, x14, x15, x16, x17, rfl, ?_⟩
      exact ⟨G.bel, H.l9, H.m10, fun h => (H.c11 h).new7 _, H.l12, H.m13, fun h => (H.c14 h).new7 _, H.l15, H.m16, fun h => (H.c17 h).new7 _, H.u6, G.a6, fun h => absurd h (by simp [updD]), fun _ => PZ.new hB _ _ _ _ _ _, H.u8, G.a8, fun _ => hfar.2.1, H.n68, fun _ => Ne.symm hfar.2.2.2, fun h => absurd h hno, fun h => absurd (H.q13 h) hno, H.q14, fun h => absurd h hno, fun h => absurd (H.q13 h) hno, fun h => absurd (H.q13 (H.q14 h)) hno⟩
    · intro d a wr H hk hdep
      refine inv_step (fun K hK => ?_)
      obtain ⟨x6, x7, x8, x9, x10, x11, x12, x13, x14, x15, x16, x17, rfl, H⟩ := H
      have hB := H.bel.size
      have HH := Lib.hid H
      have hno : ¬ d 12 = true := fun h12 => by have := (H.q12 h12).2.2; rw [hk] at this; cases this
      clear H hdep
      unfold Oper.wp
      go_simp
      have H := HH.out
      have G := H.grow (w' := wr.alloc (.cells #[.int .i64 0, .int .i64 0, .int .i64 0, .string ⟨#[]⟩, .slice none 0 0, .bool false] 31)) ((Below.refl _ _).alloc (Nat.le_refl _) _) hB
      have hfar := H.far (Nat.le_refl _) hB
      refine hK _ _ ⟨x6, x7, _, x9, x10, x11, x12, x13, x14, x15, x16, x17, rfl, ?_⟩
      exact ⟨G.bel, H.l9, H.m10, fun h => (H.c11 h).new8 _, H.l12, H.m13, fun h => (H.c14 h).new8 _, H.l15, H.m16, fun h => (H.c17 h).new8 _, H.u6, G.a6, H.u7, G.a7, fun h => absurd h (by simp [updD]), fun _ => PZ.new hB _ _ _ _ _ _, H.n67, fun _ => hfar.2.1, fun _ => hfar.2.2.1, fun h => absurd h hno, fun h => absurd (H.q13 h) hno, H.q14, fun h => absurd h hno, fun h => absurd (H.q13 h) hno, fun h => absurd (H.q13 (H.q14 h)) hno⟩
    · intro d a wr H hk hdep
      refine inv_step (fun K hK => ?_)
      obtain ⟨x6, x7, x8, x9, x10, x11, x12, x13, x14, x15, x16, x17, rfl, H⟩ := H
      have hB := H.bel.size
      have HH := Lib.hid H
      simp [Region.binds] at hdep
      have e9 : d 9 = true := by simp_all
      have e10 : d 10 = true := by simp_all
      have e11 : d 11 = true := by simp_all
      have ec : d 2 = true := by simp_all
      obtain ⟨b, y0, y1, y2, y3, y4, y5, rfl, hBb, h3⟩ := H.a6 e9
      obtain ⟨a2, c2, rfl, hr⟩ := H.c11 ec
      have HR := Lib.hid hr
      have hz := blk_cells h3
      have hzf := blk_frz h3
      have hzl := blk_lt h3
      obtain ⟨w4, hw4, h4, hs4, hk4, hb4⟩ := six wr b h3 (.int .i64 j0.id) (.int .i64 j0.en) (.int .i64 j0.pe) (.string j0.ref) (.slice a2 j0.lines.length c2) (.bool j0.void)
      have HS4 := Lib.hid (And.intro hw4 (And.intro h4 (And.intro hs4 (And.intro hk4 hb4))))
      clear H hdep hr h4 hs4 hk4 hb4 hw4
      unfold Oper.wp
      go_simp
      have H := HH.out
      obtain ⟨hw4, h4, hs4, hk4, hb4⟩ := HS4.out
      rw [hw4]
      have hr := HR.out
      have hst : St6 wr w4 b := ⟨hs4, hk4, hb4⟩
      refine hK _ _ ⟨_, x7, x8, x9, x10, _, x12, x13, x14, x15, x16, x17, rfl, ?_⟩
      exact ⟨hb4 _ _ H.bel hBb, H.l9, H.m10, fun h => (H.c11 h).store hst (fun k hf e => hf.2.1 (by rw [e])), H.l12, H.m13, fun h => (H.c14 h).store hst (fun k hf e => hf.2.1 (by rw [e])), H.l15, H.m16, fun h => (H.c17 h).store hst (fun k hf e => hf.2.1 (by rw [e])), fun h => absurd h (by simp [updD, e9, e10, e11]), fun _ => ⟨b, _, _, _, _, _, _, rfl, hBb, h4⟩, fun h => absurd h (by simp [updD, e9, e10, e11]), fun h => (H.a7 h).store hst (Ne.symm (H.n67 e9)), fun h => absurd h (by simp [updD, e9, e10, e11]), fun h => (H.a8 h).store hst (Ne.symm (H.n68 e9)), H.n67, H.n68, H.n78, fun _ => ⟨by simp [updD, e9], by simp [updD, e10], by simp [updD, e11]⟩, fun _ => by simp [updD], H.q14, fun _ => ⟨b, a2, c2, rfl, hBb, h4, tJn.keep (fun k hk hf => hk4 k (fun e => hf.2.1 (by rw [e]))) hr⟩, fun h => absurd (H.q13 h) (by rw [hk]; simp), fun h => absurd (H.q13 (H.q14 h)) (by rw [hk]; simp)⟩
    · intro d a wr H hk hdep
      refine inv_step (fun K hK => ?_)
      obtain ⟨x6, x7, x8, x9, x10, x11, x12, x13, x14, x15, x16, x17, rfl, H⟩ := H
      have hB := H.bel.size
      have HH := Lib.hid H
      simp [Region.binds] at hdep
      have ep : d 12 = true := by simp_all
      have ec : d 5 = true := by simp_all
      obtain ⟨e9, e10, e11⟩ := H.q12 ep
      obtain ⟨b, y0, y1, y2, y3, y4, y5, rfl, hBb, h3⟩ := H.a7 e10
      obtain ⟨a2, c2, rfl, hr⟩ := H.c14 ec
      have HR := Lib.hid hr
      have hz := blk_cells h3
      have hzf := blk_frz h3
      have hzl := blk_lt h3
      obtain ⟨w4, hw4, h4, hs4, hk4, hb4⟩ := six wr b h3 (.int .i64 j1.id) (.int .i64 j1.en) (.int .i64 j1.pe) (.string j1.ref) (.slice a2 j1.lines.length c2) (.bool j1.void)
      have HS4 := Lib.hid (And.intro hw4 (And.intro h4 (And.intro hs4 (And.intro hk4 hb4))))
      clear H hdep hr h4 hs4 hk4 hb4 hw4
      unfold Oper.wp
      go_simp
      have H := HH.out
      obtain ⟨hw4, h4, hs4, hk4, hb4⟩ := HS4.out
      rw [hw4]
      have hr := HR.out
      have hst : St6 wr w4 b := ⟨hs4, hk4, hb4⟩
      refine hK _ _ ⟨x6, _, x8, x9, x10, x11, x12, x13, _, x15, x16, x17, rfl, ?_⟩
      exact ⟨hb4 _ _ H.bel hBb, H.l9, H.m10, fun h => (H.c11 h).store hst (fun k hf e => hf.2.2.1 (by rw [e])), H.l12, H.m13, fun h => (H.c14 h).store hst (fun k hf e => hf.2.2.1 (by rw [e])), H.l15, H.m16, fun h => (H.c17 h).store hst (fun k hf e => hf.2.2.1 (by rw [e])), fun h => absurd h (by simp [updD, e9, e10, e11]), fun h => (H.a6 h).store hst (H.n67 e9), fun h => absurd h (by simp [updD, e9, e10, e11]), fun _ => ⟨b, _, _, _, _, _, _, rfl, hBb, h4⟩, fun h => absurd h (by simp [updD, e9, e10, e11]), fun h => (H.a8 h).store hst (Ne.symm (H.n78 e10)), H.n67, H.n68, H.n78, fun _ => ⟨by simp [updD, e9], by simp [updD, e10], by simp [updD, e11]⟩, fun _ => by simp [updD, ep], fun _ => by simp [updD], fun h => (H.s6 h).store hst (H.n67 e9) (fun k hf e => hf.2.2.1 (by rw [e])), fun _ => ⟨b, a2, c2, rfl, hBb, h4, tJn.keep (fun k hk hf => hk4 k (fun e => hf.2.2.1 (by rw [e]))) hr⟩, fun h => absurd (H.q14 h) (by rw [hk]; simp)⟩
    · intro d a wr H hk hdep
      refine inv_step (fun K hK => ?_)
      obtain ⟨x6, x7, x8, x9, x10, x11, x12, x13, x14, x15, x16, x17, rfl, H⟩ := H
      have hB := H.bel.size
      have HH := Lib.hid H
      simp [Region.binds] at hdep
      have ep : d 13 = true := by simp_all
      have ec : d 8 = true := by simp_all
      obtain ⟨e9, e10, e11⟩ := H.q12 (H.q13 ep)
      obtain ⟨b, y0, y1, y2, y3, y4, y5, rfl, hBb, h3⟩ := H.a8 e11
      obtain ⟨a2, c2, rfl, hr⟩ := H.c17 ec
      have HR := Lib.hid hr
      have hz := blk_cells h3
      have hzf := blk_frz h3
      have hzl := blk_lt h3
      obtain ⟨w4, hw4, h4, hs4, hk4, hb4⟩ := six wr b h3 (.int .i64 j2.id) (.int .i64 j2.en) (.int .i64 j2.pe) (.string j2.ref) (.slice a2 j2.lines.length c2) (.bool j2.void)
      have HS4 := Lib.hid (And.intro hw4 (And.intro h4 (And.intro hs4 (And.intro hk4 hb4))))
      clear H hdep hr h4 hs4 hk4 hb4 hw4
      unfold Oper.wp
      go_simp
      have H := HH.out
      obtain ⟨hw4, h4, hs4, hk4, hb4⟩ := HS4.out
      rw [hw4]
      have hr := HR.out
      have hst : St6 wr w4 b := ⟨hs4, hk4, hb4⟩
      refine hK _ _ ⟨x6, x7, _, x9, x10, x11, x12, x13, x14, x15, x16, _, rfl, ?_⟩
      exact ⟨hb4 _ _ H.bel hBb, H.l9, H.m10, fun h => (H.c11 h).store hst (fun k hf e => hf.2.2.2 (by rw [e])), H.l12, H.m13, fun h => (H.c14 h).store hst (fun k hf e => hf.2.2.2 (by rw [e])), H.l15, H.m16, fun h => (H.c17 h).store hst (fun k hf e => hf.2.2.2 (by rw [e])), fun h => absurd h (by simp [updD, e9, e10, e11]), fun h => (H.a6 h).store hst (H.n68 e9), fun h => absurd h (by simp [updD, e9, e10, e11]), fun h => (H.a7 h).store hst (H.n78 e10), fun h => absurd h (by simp [updD, e9, e10, e11]), fun _ => ⟨b, _, _, _, _, _, _, rfl, hBb, h4⟩, H.n67, H.n68, H.n78, fun _ => ⟨by simp [updD, e9], by simp [updD, e10], by simp [updD, e11]⟩, fun h => by simp [updD]; exact H.q13 (by simpa [updD] using h), fun _ => by simp [updD, ep], fun h => (H.s6 h).store hst (H.n68 e9) (fun k hf e => hf.2.2.2 (by rw [e])), fun h => (H.s7 h).store hst (H.n78 e10) (fun k hf e => hf.2.2.2 (by rw [e])), fun _ => ⟨b, a2, c2, rfl, hBb, h4, tJn.keep (fun k hk hf => hk4 k (fun e => hf.2.2.2 (by rw [e]))) hr⟩⟩
end Go.Proofs.Ytogikjnfmcfbmaa
