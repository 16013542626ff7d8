/- GroupTells: what a group has, account by account, what was taken out, the plug, what is others' and the owners', or the error; all comes to 0; lists kept. -/
import Derived.Test.YtgggpaacagbmcaaGreatX42GroupTells
import Derived.Test.YtgggpaacagbmcaaGreatX43GroupTells
import Derived.Test.YtgggpaacagbmcaaGreatX46GroupTells
import Derived.Test.YtgggpaacagbmcaaGreatX48GroupTells
set_option linter.unusedVariables false
set_option linter.unusedSimpArgs false
namespace Go.Proofs.YtgggpaacagbmcaaGreat
open Go.RowKit Go.Maps Go.Deep

theorem docT_len {r : List Ac} {ms : List Mb} {J : List Jn} (hV : ValJ J) (hl : J.length ≤ 100) (h9 : ms.length ≤ 9) (p : Int) : (docT r ms J p).1.bal.length ≤ 7200 := by
  unfold docT
  split
  · unfold docG
    simp only
    have h1 := docX_bd (r := r) hV hl h9 (p := p) ms.length (Nat.le_refl _)
    have h2 : prt r ms J p ms.length = ms.map (memP r ms J p) := by unfold prt; rw [List.take_length]
    rw [h2] at h1
    have h3 := refP_len (docX (ms.map (memP r ms J p)))
    unfold plainT
    split
    · have := List.length_filter_le nzB (refP (docX (ms.map (memP r ms J p))))
      simp only
      omega
    · simp
  · simp [grp0]
theorem docT_ok {r : List Ac} {ms : List Mb} {J : List Jn} {p : Int} (h : (docT r ms J p).2 = true) : fitsB (docT r ms J p).1.plug = true ∧ fitsB (docT r ms J p).1.out = true := by
  unfold docT at h ⊢
  split at h
  · rename_i hc
    rw [if_pos hc]
    rw [Bool.and_eq_true] at hc
    have := hc.2
    unfold docF at this
    simp only [Bool.and_eq_true] at this
    exact ⟨this.2.1, this.2.2.1⟩
  · cases h
/-- what the program answers of a group -/
theorem mak_doc {r : List Ac} {ms : List Mb} {J : List Jn} {p : Int} (hg : grpB ms = true) (hp : monthOk p = true) : makT r ms J p = if (docT r ms J p).2 then ((docT r ms J p).1, 0) else (grp0, 2) := by
  rw [← doc_grp]
  unfold makT
  rw [hg, hp]
  rfl
theorem mak_len {r : List Ac} {ms : List Mb} {J : List Jn} (hV : ValJ J) (hl : J.length ≤ 100) (p : Int) : (makT r ms J p).1.bal.length ≤ 10000 := by
  unfold makT
  split
  · rename_i hc
    rw [Bool.and_eq_true] at hc
    rw [doc_grp]
    split
    · have := docT_len (r := r) hV hl (grpB_len hc.1) p
      simp only
      omega
    · simp [grp0]
  · simp [grp0]
theorem sum_bdN {l : List (Int × Int)} (h : ∀ x ∈ l, fitsB x.2 = true) {n : Nat} (hn : l.length ≤ n) : -(1000000000000000 * (n : Int)) ≤ sumI (l.map (·.2)) ∧ sumI (l.map (·.2)) ≤ 1000000000000000 * (n : Int) := by
  have := sumI_bdF (l.map (·.2)) (all_mapF h)
  rw [List.length_map] at this
  omega

set_option maxHeartbeats 16000000 in
set_option maxRecDepth 100000 in
theorem groupTells_any (rows : List Ac) (ra : Option Addr) (rc : Nat) (l : List Jn) (la : Option Addr) (lc : Nat) (p : Int) (hpi : I64 p) (ms : List Mb) (ma : Option Addr) (mc : Nat) (w : World) {F G H : Nat → Prop} (hs : Sl tAc w F ra rows) (hl : rows.length ≤ maxLen) (ht : Sl tJn w G la l) (hm : l.length ≤ maxLen) (hmb : Sl tMb w H ma ms) (hml : ms.length ≤ maxLen) :
    Calls Tryz.prog 3 #[.slice ra rows.length rc, .slice la l.length lc, .int .i64 p, .slice ma ms.length mc] w fun en w' => en = .returned (.bool true) ∧ Below w.heap.size w w' := by
  have HS := Lib.hid hs
  have HTJ := Lib.hid ht
  have HMB := Lib.hid hmb
  have HPI := Lib.hid hpi
  have hml' : ms.length ≤ 9223372036854775807 := by unfold maxLen at hml; omega
  clear hs ht hpi hmb
  go_enter Tryz.func3, Tryz.ntmps3
  go_wp2_with fail
  refine (few_any l la lc 40 _ HTJ.out hm (by omega)).mono ?_
  rintro en w1 ⟨b, rfl, _, hb⟩
  have HB1 := Lib.hid hb
  clear hb
  cases b
  · skip
    go_wp2_with fail
    refine (alive14 w1).mono ?_
    rintro en w2 ⟨rfl, hb⟩
    have HB2 := Lib.hid (belows_then HB1.out HB1.out.size hb)
    clear hb
    go_wp2_with fail
    go_ret
    exact ⟨rfl, HB2.out⟩
  rcases (show 15 < ms.length ∨ ms.length ≤ 15 by omega) with h15 | h15
  · skip
    go_wp2_with fail
    refine (alive14 w1).mono ?_
    rintro en w2 ⟨rfl, hb⟩
    have HB2 := Lib.hid (belows_then HB1.out HB1.out.size hb)
    clear hb
    go_wp2_with fail
    go_ret
    exact ⟨rfl, HB2.out⟩
  · go_wp2_with fail
    refine (alive14 w1).mono ?_
    rintro en w2 ⟨rfl, hb⟩
    have HB2 := Lib.hid (belows_then HB1.out HB1.out.size hb)
    clear hb HB1
    go_wp2_with fail
    refine (set_any rows ra rc l la lc w2 (Sl.keep (fun k hk _ => HB2.out.block k hk) HS.out) hl (Sl.keep (fun k hk _ => HB2.out.block k hk) HTJ.out) hm).mono ?_
    rintro en w3 ⟨c, g, xa, fa, ga, xc, fc, gc, mb, rfl, hc, hg, hxa, hfa, hb⟩
    have HB3 := Lib.hid (belows_then HB2.out HB2.out.size hb)
    have HV := Lib.hid (fit_val 40 l)
    have hJl : (fitJ 40 l).length ≤ 40 := fitJ_len 40 l [] (by simp)
    have HGA : Hid (GoodA (setR rows)) := Lib.hid (setFold_good (rows.take 30) [] GoodA.nil)
    have hrl : (setR rows).length ≤ 30 := by
      have := setFold_len (rows.take 30) []
      rw [List.length_take] at this
      simp only [List.length_nil] at this
      unfold setR
      omega
    generalize fitJ 40 l = J at *
    generalize setR rows = r at *
    have HC3 := Lib.hid hc
    have HG3 := Lib.hid hg
    have HXA3 := Lib.hid hxa
    have HFA3 := Lib.hid hfa
    have HM3 := Lib.hid (Sl.keep (fun k hk _ => HB3.out.block k hk) HMB.out)
    clear hc hg hxa hfa hb HB2 HS HTJ HMB
    go_wp2_with fail
    refine (refs_any ms ma mc w3 HM3.out (by omega)).mono ?_
    rintro en w4 ⟨v, rfl, ho, hb⟩
    obtain ⟨qa, qc, rfl, _, _, hq⟩ := ho.slice
    have HQ4 := Lib.hid hq
    have HB4 := Lib.hid hb
    clear ho hq hb
    go_wp2_with fail
    refine (r10Check_any ms qa qc w4 HQ4.out hml).mono ?_
    rintro en w4b ⟨rfl, hb⟩
    have HB4b := Lib.hid (belows_then HB4.out HB4.out.size hb)
    have HQ4b := Lib.hid (Sl.keep (fun k hk _ => hb.block k hk) HQ4.out)
    have HCK := Lib.hid (grCheck_any ms ma mc w4b (Sl.keep (fun k hk _ => HB4b.out.block k hk) HM3.out) hml)
    obtain ⟨⟨⟨bl, pl, ou, ot, ow, od, on⟩, er⟩, hT⟩ : ∃ T, makT r ms J p = T := ⟨_, rfl⟩
    have hbl : bl.length ≤ 10000 := by
      have := mak_len (r := r) (ms := ms) HV.out (by omega) p
      rw [hT] at this
      exact this
    have HT := Lib.hid hT
    clear hb HB4 HQ4 hT
    cases hgb : grpB ms
    · skip
      rw [hgb] at HCK
      have HT0 : Hid ((⟨bl, pl, ou, ot, ow, od, on⟩, er) = (grp0, (1 : Int))) := Lib.hid (by rw [← HT.out]; unfold makT; rw [hgb]; rfl)
      have HCK2 := Lib.hid (fun W (hb : Below w4b.heap.size w4b W) => by
        have := grCheck_any ms ma mc W (Sl.keep (fun k hk _ => hb.block k hk) (Sl.keep (fun k hk _ => HB4b.out.block k hk) HM3.out)) hml
        rw [hgb] at this
        exact this)
      clear hgb
      go_wp2_with fail
      refine HCK.out.mono ?_
      rintro en w4c ⟨rfl, hb⟩
      have HB4c := Lib.hid hb
      clear hb HCK
      go_wp2_with fail
      refine (HCK2.out w4c HB4c.out).mono ?_
      rintro en w5 ⟨rfl, hb⟩
      have hb5 := belows_then HB4b.out HB4b.out.size (belows_then HB4c.out HB4c.out.size hb)
      have hb6 := belows_then HB4c.out HB4c.out.size hb
      have HC5 := Lib.hid (HC3.out.below hb5)
      have HG5 := Lib.hid (HG3.out.below hb5)
      have HM5 := Lib.hid (Sl.keep (fun k hk _ => hb5.block k hk) HM3.out)
      have HXA5 := Lib.hid (Sl.keep (fun k hk _ => hb5.block k hk) HXA3.out)
      have HFA5 := Lib.hid (Sl.keep (fun k hk _ => hb5.block k hk) HFA3.out)
      have HQ5 := Lib.hid (Sl.keep (fun k hk _ => hb6.block k hk) HQ4b.out)
      have HW5 := Lib.hid (belows_then HB3.out HB3.out.size hb5)
      clear hb hb5 hb6 HCK2 HC3 HG3 HM3 HXA3 HFA3 HQ4b HB3 HB4b HB4c
      have HPN : Hid (Pend (w5.alloc (.cells (bookB (.slice none 0 0) (.slice none 0 0)) 48)) w5.heap.size 0 [] [] []) := Lib.hid (pend_new (blk_new w5 _))
      have HBB : Hid (Below w5.heap.size w5 (w5.alloc (.cells (bookB (.slice none 0 0) (.slice none 0 0)) 48))) := Lib.hid ((Below.refl _ _).alloc (Nat.le_refl _) _)
      obtain ⟨B, hB⟩ : ∃ B, w5.heap.size = B := ⟨_, rfl⟩
      rw [hB] at HPN HBB
      go_wp2_with fail
      refine abs_world (S := fun wx => wx = w5.alloc (.cells (bookB (.slice none 0 0) (.slice none 0 0)) 48)) ?_ rfl
      rintro wy hwy
      rw [← hwy] at HPN HBB
      clear hwy
      go_loopw [17, 18, 19, 20, 21, 22, 23] (fun vk v18 v19 v20 v21 v22 v23 wr => ∃ (k : Nat), vk = .int .i64 k ∧ k ≤ 2 ∧ Hid (Pend wr B k [] [] []) ∧ Hid (Below B w5 wr)) (fun vk _ _ _ _ _ _ _ => 2 - (intOf vk).toNat)
      case atStart => exact ⟨0, rfl, by omega, HPN, HBB⟩
      case round =>
        obtain ⟨k, rfl, hk, HP, HB⟩ := hrel
        have hbr : Below w5.heap.size w5 wr := by rw [hB]; exact HB.out
        have HC := Lib.hid (HC5.out.below hbr)
        have HG := Lib.hid (HG5.out.below hbr)
        have HMM := Lib.hid (Sl.keep (fun k hk _ => hbr.block k hk) HM5.out)
        have hBr : B < wr.heap.size := HP.out.lt
        clear hbr HBB HPN
        by_cases hlt : k < 2
        · skip
          have HM := Lib.hid (grMake_any HC.out HG.out HV.out (by omega) p HPI.out ms ma mc HMM.out hml)
          rw [HT.out] at HM
          go_wp2_with fail
          refine HM.out.mono ?_
          rintro en w6 ⟨vx, rfl, ho, hb6⟩
          simp only at ho
          obtain ⟨xa1, xc1, rfl, _, _, _⟩ := ho.slice
          have HP6 : Hid (Pend w6 B k [] [] [(.slice xa1 bl.length xc1, bl)]) := Lib.hid (HP.out.begin hb6 (fun q hq => by rw [List.mem_singleton.1 hq]; exact ⟨ho, hbl⟩) (List.pairwise_singleton _ _))
          have HP7 := Lib.hid (HP6.out.alloc (.cells #[.slice xa1 bl.length xc1, .int .i64 pl, .int .i64 ou, .int .i64 ot, .int .i64 ow, .int .i64 od, .int .i64 on] 51))
          have HS7 := Lib.hid (blk_new w6 (.cells #[.slice xa1 bl.length xc1, .int .i64 pl, .int .i64 ou, .int .i64 ot, .int .i64 ow, .int .i64 od, .int .i64 on] 51))
          have HB7 := Lib.hid ((HB.out.trans (hb6.mono (Nat.le_of_lt hBr))).alloc (Nat.le_trans (Nat.le_of_lt hBr) hb6.size) (.cells #[.slice xa1 bl.length xc1, .int .i64 pl, .int .i64 ou, .int .i64 ot, .int .i64 ow, .int .i64 od, .int .i64 on] 51))
          clear ho hb6 HP6 HM HC HG HMM HB HP
          simp only
          go_wp2_with fail
          refine (keep_bal HP7.out (by simp; omega)).mono ?_
          rintro en w8 ⟨rfl, hbu, hp8, hfs⟩
          have HP8 := Lib.hid hp8
          have HS8 := Lib.hid ((hfs _ (List.mem_cons_self ..)).trans HS7.out)
          have HB8 := Lib.hid (But.toBelow HB7.out hbu (fun k h => h) (by have := HP7.out.lt; omega))
          have hs8 := blk_cells HS8.out
          have hl8 := blk_lt HS8.out
          clear hp8 hfs hbu HP7 HS7 HB7
          have HRD : Hid (OwnL tBal w8 (B + 1) (.slice xa1 bl.length xc1) bl) := Lib.hid (HP8.out.read (p := (.slice xa1 bl.length xc1, bl)) (by simp))
          have HPE : Hid (Pend w8 B (k + 1) [] [] []) := Lib.hid (by have := HP8.out.again; simpa using this)
          have hbr : Below w5.heap.size w5 w8 := by rw [hB]; exact HB8.out
          have HXA := Lib.hid (Sl.keep (fun k hk _ => hbr.block k hk) HXA5.out)
          have HFA := Lib.hid (Sl.keep (fun k hk _ => hbr.block k hk) HFA5.out)
          have HQQ := Lib.hid (Sl.keep (fun k hk _ => hbr.block k hk) HQ5.out)
          clear hbr HP8
          have h := HT0.out
          simp only [grp0, Prod.mk.injEq, GrpR.mk.injEq] at h
          obtain ⟨⟨rfl, rfl, rfl, rfl, rfl, rfl, rfl⟩, rfl⟩ := h
          clear HT HT0
          simp only [List.length_nil] at *
          go_wp2_with fail
          go_roundw
          case rel => exact ⟨k + 1, by go_num, by omega, HPE, HB8⟩
          case measure => simp [intOf]; omega
        · skip
          obtain rfl : k = 2 := by omega
          go_wp2_with fail
          refine (grMake_nilc wr (.pointer (some ⟨g, 0, none⟩)) p (.slice ma ms.length mc)).mono ?_
          rintro en wa1 ⟨va, rfl, hoa, hb⟩
          obtain ⟨xa1, xc1, rfl, _, _, _⟩ := hoa.slice
          have HBa := Lib.hid (hb.alloc hb.size (.cells #[.slice xa1 grp0.bal.length xc1, .int .i64 0, .int .i64 0, .int .i64 0, .int .i64 0, .int .i64 0, .int .i64 0] 51))
          clear hb hoa
          simp only [grp0]
          go_wp2_with fail
          refine (grMake_nilb _ c p (.slice ma ms.length mc)).mono ?_
          rintro en wb ⟨vb, rfl, hob, hb⟩
          obtain ⟨xa2, xc2, rfl, _, _, _⟩ := hob.slice
          have hbb := belows_then HBa.out HBa.out.size hb
          have HBb := Lib.hid (hbb.alloc hbb.size (.cells #[.slice xa2 grp0.bal.length xc2, .int .i64 0, .int .i64 0, .int .i64 0, .int .i64 0, .int .i64 0, .int .i64 0] 51))
          clear hb hbb hob
          have HPb := Lib.hid (HP.out.below HBb.out)
          simp only [grp0]
          go_wp2_with fail
          refine (kapart_pend HPb.out (by omega)).mono ?_
          rintro en wc1 ⟨rfl, hbu⟩
          have HBC := Lib.hid (But.toBelow (HB.out.trans (HBb.out.mono (Nat.le_of_lt hBr))) hbu (fun k h => h) (Nat.le_of_lt HPb.out.lt))
          clear hbu
          go_wp2_with fail
          go_ret
          exact ⟨rfl, HW5.out.trans (HBC.out.mono (by rw [← hB]; exact HW5.out.size))⟩
    · rw [hgb] at HCK
      have HGB := Lib.hid hgb
      clear hgb
      go_wp2_with fail
      refine HCK.out.mono ?_
      rintro en w5 ⟨rfl, hb⟩
      have hb5 := belows_then HB4b.out HB4b.out.size hb
      have HC5 := Lib.hid (HC3.out.below hb5)
      have HG5 := Lib.hid (HG3.out.below hb5)
      have HM5 := Lib.hid (Sl.keep (fun k hk _ => hb5.block k hk) HM3.out)
      have HXA5 := Lib.hid (Sl.keep (fun k hk _ => hb5.block k hk) HXA3.out)
      have HFA5 := Lib.hid (Sl.keep (fun k hk _ => hb5.block k hk) HFA3.out)
      have HQ5 := Lib.hid (Sl.keep (fun k hk _ => hb.block k hk) HQ4b.out)
      have HW5 := Lib.hid (belows_then HB3.out HB3.out.size hb5)
      clear hb hb5 HCK HC3 HG3 HM3 HXA3 HFA3 HQ4b HB3 HB4b
      have HPN : Hid (Pend (w5.alloc (.cells (bookB (.slice none 0 0) (.slice none 0 0)) 48)) w5.heap.size 0 [] [] []) := Lib.hid (pend_new (blk_new w5 _))
      have HBB : Hid (Below w5.heap.size w5 (w5.alloc (.cells (bookB (.slice none 0 0) (.slice none 0 0)) 48))) := Lib.hid ((Below.refl _ _).alloc (Nat.le_refl _) _)
      obtain ⟨B, hB⟩ : ∃ B, w5.heap.size = B := ⟨_, rfl⟩
      rw [hB] at HPN HBB
      go_wp2_with fail
      refine abs_world (S := fun wx => wx = w5.alloc (.cells (bookB (.slice none 0 0) (.slice none 0 0)) 48)) ?_ rfl
      rintro wy hwy
      rw [← hwy] at HPN HBB
      clear hwy
      go_loopw [17, 18, 19, 20, 21, 22, 23] (fun vk v18 v19 v20 v21 v22 v23 wr => ∃ (k : Nat), vk = .int .i64 k ∧ k ≤ 2 ∧ Hid (Pend wr B k [] [] []) ∧ Hid (Below B w5 wr)) (fun vk _ _ _ _ _ _ _ => 2 - (intOf vk).toNat)
      case atStart => exact ⟨0, rfl, by omega, HPN, HBB⟩
      case round =>
        obtain ⟨k, rfl, hk, HP, HB⟩ := hrel
        have hbr : Below w5.heap.size w5 wr := by rw [hB]; exact HB.out
        have HC := Lib.hid (HC5.out.below hbr)
        have HG := Lib.hid (HG5.out.below hbr)
        have HMM := Lib.hid (Sl.keep (fun k hk _ => hbr.block k hk) HM5.out)
        have hBr : B < wr.heap.size := HP.out.lt
        clear hbr HBB HPN
        by_cases hlt : k < 2
        · skip
          have HM := Lib.hid (grMake_any HC.out HG.out HV.out (by omega) p HPI.out ms ma mc HMM.out hml)
          rw [HT.out] at HM
          go_wp2_with fail
          refine HM.out.mono ?_
          rintro en w6 ⟨vx, rfl, ho, hb6⟩
          simp only at ho
          obtain ⟨xa1, xc1, rfl, _, _, _⟩ := ho.slice
          have HP6 : Hid (Pend w6 B k [] [] [(.slice xa1 bl.length xc1, bl)]) := Lib.hid (HP.out.begin hb6 (fun q hq => by rw [List.mem_singleton.1 hq]; exact ⟨ho, hbl⟩) (List.pairwise_singleton _ _))
          have HP7 := Lib.hid (HP6.out.alloc (.cells #[.slice xa1 bl.length xc1, .int .i64 pl, .int .i64 ou, .int .i64 ot, .int .i64 ow, .int .i64 od, .int .i64 on] 51))
          have HS7 := Lib.hid (blk_new w6 (.cells #[.slice xa1 bl.length xc1, .int .i64 pl, .int .i64 ou, .int .i64 ot, .int .i64 ow, .int .i64 od, .int .i64 on] 51))
          have HB7 := Lib.hid ((HB.out.trans (hb6.mono (Nat.le_of_lt hBr))).alloc (Nat.le_trans (Nat.le_of_lt hBr) hb6.size) (.cells #[.slice xa1 bl.length xc1, .int .i64 pl, .int .i64 ou, .int .i64 ot, .int .i64 ow, .int .i64 od, .int .i64 on] 51))
          clear ho hb6 HP6 HM HC HG HMM HB HP
          simp only
          go_wp2_with fail
          refine (keep_bal HP7.out (by simp; omega)).mono ?_
          rintro en w8 ⟨rfl, hbu, hp8, hfs⟩
          have HP8 := Lib.hid hp8
          have HS8 := Lib.hid ((hfs _ (List.mem_cons_self ..)).trans HS7.out)
          have HB8 := Lib.hid (But.toBelow HB7.out hbu (fun k h => h) (by have := HP7.out.lt; omega))
          have hs8 := blk_cells HS8.out
          have hl8 := blk_lt HS8.out
          clear hp8 hfs hbu HP7 HS7 HB7
          have HRD : Hid (OwnL tBal w8 (B + 1) (.slice xa1 bl.length xc1) bl) := Lib.hid (HP8.out.read (p := (.slice xa1 bl.length xc1, bl)) (by simp))
          have HPE : Hid (Pend w8 B (k + 1) [] [] []) := Lib.hid (by have := HP8.out.again; simpa using this)
          have hbr : Below w5.heap.size w5 w8 := by rw [hB]; exact HB8.out
          have HXA := Lib.hid (Sl.keep (fun k hk _ => hbr.block k hk) HXA5.out)
          have HFA := Lib.hid (Sl.keep (fun k hk _ => hbr.block k hk) HFA5.out)
          have HQQ := Lib.hid (Sl.keep (fun k hk _ => hbr.block k hk) HQ5.out)
          clear hbr HP8
          go_wp2_with fail
          cases hmo : monthOk p
          · have HT0 : Hid ((⟨bl, pl, ou, ot, ow, od, on⟩, er) = (grp0, (1 : Int))) := Lib.hid (by rw [← HT.out]; unfold makT; rw [hmo, Bool.and_false]; rfl)
            refine (ref_valid_is p hmo w8).mono ?_
            rintro en wa1 ⟨rfl, hb⟩
            have HPa := Lib.hid (HPE.out.below hb)
            have HBa := Lib.hid (HB8.out.trans (hb.mono (Nat.le_of_lt HPE.out.lt)))
            have hsa := blk_cells (blk_below HS8.out hb)
            have hla := blk_lt (blk_below HS8.out hb)
            have h := HT0.out
            simp only [grp0, Prod.mk.injEq, GrpR.mk.injEq] at h
            obtain ⟨⟨rfl, rfl, rfl, rfl, rfl, rfl, rfl⟩, rfl⟩ := h
            clear HT HT0 hb hmo hs8 hl8 HS8
            try simp only [List.length_nil] at *
            go_wp2_with fail
            go_roundw
            case rel => exact ⟨k + 1, by go_num, by omega, HPa, HBa⟩
            case measure => simp [intOf]; omega
          · refine (ref_valid_is p hmo w8).mono ?_
            rintro en w9 ⟨rfl, hb⟩
            have HP9 := Lib.hid (HPE.out.below hb)
            have HB9 := Lib.hid (HB8.out.trans (hb.mono (Nat.le_of_lt HPE.out.lt)))
            have HS9 := Lib.hid (blk_below HS8.out hb)
            have HR9 := Lib.hid (HRD.out.below hb)
            obtain ⟨⟨G, fits⟩, hD⟩ : ∃ D, docT r ms J p = D := ⟨_, rfl⟩
            have HRG := Lib.hid (r10Group_any HGA.out xa xc (by omega) HV.out (by omega) fa fc p ms qa qc HGB.out w9 (Sl.keep (fun k hk _ => hb.block k hk) HXA.out) (Sl.keep (fun k hk _ => hb.block k hk) HFA.out) (Sl.keep (fun k hk _ => hb.block k hk) HQQ.out))
            rw [hD] at HRG
            have hTE := mak_doc (r := r) (J := J) HGB.out hmo
            rw [HT.out, hD] at hTE
            have HTE := Lib.hid hTE
            have HDD := Lib.hid hD
            have hl9 := blk_lt HS9.out
            clear hb hTE hD hmo hs8 hl8 HS8 HPE HB8 HRD HXA HFA HQQ
            go_wp2_with fail
            refine HRG.out.mono ?_
            rintro en w10 ⟨vy, rfl, ho, hb⟩
            obtain ⟨ya, yc, rfl, _, _, hys⟩ := ho.slice
            have HP10 := Lib.hid (HP9.out.below hb)
            have HB10 := Lib.hid (HB9.out.trans (hb.mono (Nat.le_of_lt HP9.out.lt)))
            have HS10 := Lib.hid (blk_below HS9.out hb)
            have HR10 := Lib.hid (HR9.out.below hb)
            have HY10 := Lib.hid hys
            clear ho hys hb HP9 HB9 HS9 HR9 HRG hl9
            simp only
            cases fits
            · have h := HTE.out
              simp only [Bool.false_eq_true, if_false, grp0, Prod.mk.injEq, GrpR.mk.injEq] at h
              obtain ⟨⟨rfl, rfl, rfl, rfl, rfl, rfl, rfl⟩, rfl⟩ := h
              have hab : Below w10.heap.size w10 (w10.alloc (.cells #[.slice ya G.bal.length yc, .int .i64 G.plug, .int .i64 G.out, .int .i64 G.oth, .int .i64 G.owned, .int .i64 G.owed, .int .i64 G.own] 57)) := (Below.refl _ _).alloc (Nat.le_refl _) _
              have hsa := blk_cells (blk_below HS10.out hab)
              have hla := blk_lt (blk_below HS10.out hab)
              have HPa := Lib.hid (HP10.out.below hab)
              have HBa := Lib.hid (HB10.out.trans (hab.mono (Nat.le_of_lt HP10.out.lt)))
              clear HT HTE HDD hab
              try simp only [List.length_nil] at *
              go_wp2_with fail
              go_roundw
              case rel => exact ⟨k + 1, by go_num, by omega, HPa, HBa⟩
              case measure => simp [intOf]; omega
            · have h := HTE.out
              simp only [if_true, Prod.mk.injEq] at h
              obtain ⟨hG, rfl⟩ := h
              subst hG
              have hok := docT_ok (r := r) (ms := ms) (J := J) (p := p) (by rw [HDD.out])
              have hsum := doc_sum (r := r) (ms := ms) (J := J) (p := p) (by rw [HDD.out])
              have hbf := docT_fit (r := r) (ms := ms) (J := J) (p := p)
              rw [HDD.out] at hok hsum hbf
              simp only at hok hsum hbf
              obtain ⟨hp1, hp2⟩ := hok
              have hpb : -1000000000000000 ≤ pl ∧ pl ≤ 1000000000000000 := by simpa [fitsB] using hp1
              have hob : -1000000000000000 ≤ ou ∧ ou ≤ 1000000000000000 := by simpa [fitsB] using hp2
              have hbl7 : bl.length ≤ 7200 := by
                have := docT_len (r := r) HV.out (by omega : J.length ≤ 100) (grpB_len HGB.out) p
                rw [HDD.out] at this
                exact this
              have hab : Below w10.heap.size w10 (w10.alloc (.cells #[.slice ya bl.length yc, .int .i64 pl, .int .i64 ou, .int .i64 ot, .int .i64 ow, .int .i64 od, .int .i64 on] 57)) := (Below.refl _ _).alloc (Nat.le_refl _) _
              have HSa := Lib.hid (blk_below HS10.out hab)
              have HYa := Lib.hid (blk_new w10 (.cells #[.slice ya bl.length yc, .int .i64 pl, .int .i64 ou, .int .i64 ot, .int .i64 ow, .int .i64 od, .int .i64 on] 57))
              have HPa := Lib.hid (HP10.out.below hab)
              have HBa := Lib.hid (HB10.out.trans (hab.mono (Nat.le_of_lt HP10.out.lt)))
              have HRa := Lib.hid (HR10.out.below hab)
              have HY2 := Lib.hid (Sl.keep (fun k hk _ => hab.block k hk) HY10.out)
              have hsa := blk_cells HSa.out
              have hla := blk_lt HSa.out
              have HSUM := Lib.hid hsum
              have HBF := Lib.hid hbf
              have hlm : bl.length ≤ maxLen := by unfold maxLen; omega
              clear hab hp1 hp2 hsum hbf HT HTE HDD HP10 HB10 HS10 HR10 HY10
              go_wp2_with fail
              refine (sameBal_is bl bl xa1 ya xc1 yc _ HRa.out.slice' HY2.out hlm hlm rfl).mono ?_
              rintro en wb ⟨rfl, hb⟩
              have HSb := Lib.hid (blk_below HSa.out hb)
              have hsb := blk_cells HSb.out
              have hlb := blk_lt HSb.out
              have hyb := blk_cells (blk_below HYa.out hb)
              have hylb := blk_lt (blk_below HYa.out hb)
              have HPb := Lib.hid (HPa.out.below hb)
              have HBb := Lib.hid (HBa.out.trans (hb.mono (Nat.le_of_lt HPa.out.lt)))
              have HRb := Lib.hid (HRa.out.below hb)
              clear hb hsa hla HSa HYa HPa HBa HRa HY2
              go_wp2_with fail
              have hl' : bl.length ≤ 9223372036854775807 := by omega
              go_loopw [22, 23] (fun vs vi wr => ∃ i : Nat, i ≤ bl.length ∧ vi = .int .i64 i ∧ vs = .int .i64 (pl + ou + sumI ((bl.take i).map (·.2))) ∧ wr = wb) (fun _ vi _ => bl.length - (intOf vi).toNat)
              case atStart => exact ⟨0, Nat.zero_le _, rfl, by simp [sumI], rfl⟩
              case round =>
                obtain ⟨i, hi, rfl, rfl, rfl⟩ := hrel
                have hsd := sum_bdN (l := bl.take i) (fun x hx => HBF.out x (List.mem_of_mem_take hx)) (n := 7200) (by rw [List.length_take]; omega)
                by_cases hli : i < bl.length
                · obtain ⟨ad, rfl, _, hadl, hc0, hc1, g0, g1⟩ := bal_at HRb.out.slice' i hli
                  have HSU : Hid (sumI ((bl.take (i + 1)).map (·.2)) = sumI ((bl.take i).map (·.2)) + bl[i].2) := Lib.hid (by rw [List.take_succ_eq_append_getElem hli, sumI_mapsnoc])
                  have hxf := HBF.out _ (List.getElem_mem hli)
                  obtain ⟨S, hS⟩ : ∃ S, sumI ((bl.take i).map (·.2)) = S := ⟨_, rfl⟩
                  rw [hS] at HSU hsd
                  rw [hS]
                  generalize bl[i] = x at *
                  obtain ⟨kc, kv⟩ := x
                  simp only at hc0 hc1 HSU hxf
                  have hxb : -1000000000000000 ≤ kv ∧ kv ≤ 1000000000000000 := by simpa [fitsB] using hxf
                  have hsd2 : -7300000000000000000 ≤ pl + ou + S ∧ pl + ou + S ≤ 7300000000000000000 := by omega
                  clear g0 g1 hxf hS hsd
                  go_wp2_with fail
                  go_roundw
                  case rel => exact ⟨i + 1, by omega, by go_num, by rw [HSU.out]; congr 1; omega, by first | rfl | trivial⟩
                  case measure => simp [intOf]; omega
                · have hz : pl + ou + sumI ((bl.take i).map (·.2)) = 0 := by rw [take_all hi hli]; exact HSUM.out
                  rw [hz]
                  go_wp2_with fail
                  go_roundw
                  case rel => exact ⟨k + 1, by go_num, by omega, HPb, HBb⟩
                  case measure => simp [intOf]; omega
        · skip
          obtain rfl : k = 2 := by omega
          go_wp2_with fail
          refine (grMake_nilc wr (.pointer (some ⟨g, 0, none⟩)) p (.slice ma ms.length mc)).mono ?_
          rintro en wa1 ⟨va, rfl, hoa, hb⟩
          obtain ⟨xa1, xc1, rfl, _, _, _⟩ := hoa.slice
          have HBa := Lib.hid (hb.alloc hb.size (.cells #[.slice xa1 grp0.bal.length xc1, .int .i64 0, .int .i64 0, .int .i64 0, .int .i64 0, .int .i64 0, .int .i64 0] 51))
          clear hb hoa
          simp only [grp0]
          go_wp2_with fail
          refine (grMake_nilb _ c p (.slice ma ms.length mc)).mono ?_
          rintro en wb ⟨vb, rfl, hob, hb⟩
          obtain ⟨xa2, xc2, rfl, _, _, _⟩ := hob.slice
          have hbb := belows_then HBa.out HBa.out.size hb
          have HBb := Lib.hid (hbb.alloc hbb.size (.cells #[.slice xa2 grp0.bal.length xc2, .int .i64 0, .int .i64 0, .int .i64 0, .int .i64 0, .int .i64 0, .int .i64 0] 51))
          clear hb hbb hob
          have HPb := Lib.hid (HP.out.below HBb.out)
          simp only [grp0]
          go_wp2_with fail
          refine (kapart_pend HPb.out (by omega)).mono ?_
          rintro en wc1 ⟨rfl, hbu⟩
          have HBC := Lib.hid (But.toBelow (HB.out.trans (HBb.out.mono (Nat.le_of_lt hBr))) hbu (fun k h => h) (Nat.le_of_lt HPb.out.lt))
          clear hbu
          go_wp2_with fail
          go_ret
          exact ⟨rfl, HW5.out.trans (HBC.out.mono (by rw [← hB]; exact HW5.out.size))⟩
theorem groupTells_row (a0 : Option Addr) (len0 cap0 : Nat) (x0 : List Ac) (a1 : Option Addr) (len1 cap1 : Nat) (x1 : List Jn) (a2 : Int) (a3 : Option Addr) (len3 cap3 : Nat) (x3 : List Mb) (w : World) (y0 : tAcs.R w (fun _ => True) [.slice a0 len0 cap0] x0) (y1 : tJns.R w (fun _ => True) [.slice a1 len1 cap1] x1) (w2 : I64 a2) (y3 : tMbs.R w (fun _ => True) [.slice a3 len3 cap3] x3) :
    Calls Tryz.prog 3 #[.slice a0 len0 cap0, .slice a1 len1 cap1, .int .i64 a2, .slice a3 len3 cap3] w fun en w' => en = .returned (.bool true) ∧ Below w.heap.size w w' := by
  obtain ⟨a, cap, he, hs, hle, hcm, _⟩ := y0
  simp only [List.cons.injEq, Value.slice.injEq, and_true] at he
  obtain ⟨rfl, rfl, rfl⟩ := he
  obtain ⟨a', cap', he, hs', hle', hcm', _⟩ := y1
  simp only [List.cons.injEq, Value.slice.injEq, and_true] at he
  obtain ⟨rfl, rfl, rfl⟩ := he
  obtain ⟨a'', cap'', he, hs'', hle'', hcm'', _⟩ := y3
  simp only [List.cons.injEq, Value.slice.injEq, and_true] at he
  obtain ⟨rfl, rfl, rfl⟩ := he
  exact groupTells_any x0 _ _ x1 _ _ a2 w2 x3 _ _ w hs (Nat.le_trans hle hcm) hs' (Nat.le_trans hle' hcm') hs'' (Nat.le_trans hle'' hcm'')
end Go.Proofs.YtgggpaacagbmcaaGreat
