/- GroupShares: the greater the group's share the less is others'; of all of it nothing, of none of it all that is neither owned nor owed. -/
import Derived.Test.YtbgkladgeijgdaaGreatX49GroupOne
set_option linter.unusedVariables false
set_option linter.unusedSimpArgs false
namespace Go.Proofs.YtbgkladgeijgdaaGreat
open Go.RowKit Go.Maps Go.Deep

theorem oth_fit (r : List Ac) (ms : List Mb) (J : List Jn) (p : Int) : fitsB (grpT r ms J p).1.oth = true := by
  unfold grpT
  split
  · rfl
  · split
    · rfl
    · exact addM_fit _

set_option maxHeartbeats 16000000 in
set_option maxRecDepth 100000 in
theorem groupShares_any (rows : List Ac) (ra : Option Addr) (rc : Nat) (l : List Jn) (la : Option Addr) (lc : Nat) (e p sh more : Int) (hpi : I64 p) (w : World) {F G : Nat → Prop} (hs : Sl tAc w F ra rows) (hl : rows.length ≤ maxLen) (ht : Sl tJn w G la l) (hm : l.length ≤ maxLen) :
    Calls Tryz.prog 5 #[.slice ra rows.length rc, .slice la l.length lc, .int .i64 e, .int .i64 p, .int .i64 sh, .int .i64 more] w fun en w' => en = .returned (.bool true) ∧ Below w.heap.size w w' := by
  have HS := Lib.hid hs
  have HT := Lib.hid ht
  have HPI := Lib.hid hpi
  clear hs ht hpi
  go_enter Tryz.func5, Tryz.ntmps5
  go_wp2_with fail
  refine (few_any l la lc 40 _ HT.out hm (by omega)).mono ?_
  rintro en w1 ⟨b, rfl, _, hb⟩
  have HB1 := Lib.hid hb
  clear hb
  cases b
  · skip
    go_wp2_with fail
    refine (alive14 w1).mono ?_
    rintro en w2 ⟨rfl, hb⟩
    have HB2 := Lib.hid (belows_then HB1.out HB1.out.size hb)
    clear hb
    go_wp2_with fail
    go_ret
    exact ⟨rfl, HB2.out⟩
  rcases (show (e < 1 ∨ 1 ≤ e ∧ 9 < e) ∨ (1 ≤ e ∧ e ≤ 9) by omega) with hbad | ⟨he1, he2⟩
  · rcases hbad with h | ⟨h, h'⟩
    · skip
      go_wp2_with fail
      refine (alive14 w1).mono ?_
      rintro en w2 ⟨rfl, hb⟩
      have HB2 := Lib.hid (belows_then HB1.out HB1.out.size hb)
      clear hb
      go_wp2_with fail
      go_ret
      exact ⟨rfl, HB2.out⟩
    · skip
      go_wp2_with fail
      refine (alive14 w1).mono ?_
      rintro en w2 ⟨rfl, hb⟩
      have HB2 := Lib.hid (belows_then HB1.out HB1.out.size hb)
      clear hb
      go_wp2_with fail
      go_ret
      exact ⟨rfl, HB2.out⟩
  go_wp2_with fail
  cases hmo : monthOk p
  · refine (ref_valid_is p hmo w1).mono ?_
    rintro en w1b ⟨rfl, hb⟩
    have HB1b := Lib.hid (belows_then HB1.out HB1.out.size hb)
    clear hb hmo
    go_wp2_with fail
    refine (alive14 w1b).mono ?_
    rintro en w2 ⟨rfl, hb⟩
    have HB2 := Lib.hid (belows_then HB1b.out HB1b.out.size hb)
    clear hb
    go_wp2_with fail
    go_ret
    exact ⟨rfl, HB2.out⟩
  refine (ref_valid_is p hmo w1).mono ?_
  rintro en w1b ⟨rfl, hb⟩
  have HB1b := Lib.hid (belows_then HB1.out HB1.out.size hb)
  have HMO := Lib.hid hmo
  clear hb hmo HB1
  rcases (show (sh < 0 ∨ 0 ≤ sh ∧ (more < 0 ∨ 0 ≤ more ∧ (10000 < sh ∨ sh ≤ 10000 ∧ 10000 - sh < more))) ∨ (0 ≤ sh ∧ 0 ≤ more ∧ sh ≤ 10000 ∧ more ≤ 10000 - sh) by omega) with hbad | ⟨hs1, hs2, hs3, hs4⟩
  · rcases hbad with h | ⟨h, h | ⟨h2, h | ⟨h3, h⟩⟩⟩
    · skip
      go_wp2_with fail
      refine (alive14 w1b).mono ?_
      rintro en w2 ⟨rfl, hb⟩
      have HB2 := Lib.hid (belows_then HB1b.out HB1b.out.size hb)
      clear hb
      go_wp2_with fail
      go_ret
      exact ⟨rfl, HB2.out⟩
    · skip
      go_wp2_with fail
      refine (alive14 w1b).mono ?_
      rintro en w2 ⟨rfl, hb⟩
      have HB2 := Lib.hid (belows_then HB1b.out HB1b.out.size hb)
      clear hb
      go_wp2_with fail
      go_ret
      exact ⟨rfl, HB2.out⟩
    · skip
      go_wp2_with fail
      refine (alive14 w1b).mono ?_
      rintro en w2 ⟨rfl, hb⟩
      have HB2 := Lib.hid (belows_then HB1b.out HB1b.out.size hb)
      clear hb
      go_wp2_with fail
      go_ret
      exact ⟨rfl, HB2.out⟩
    · skip
      go_wp2_with fail
      refine (alive14 w1b).mono ?_
      rintro en w2 ⟨rfl, hb⟩
      have HB2 := Lib.hid (belows_then HB1b.out HB1b.out.size hb)
      clear hb
      go_wp2_with fail
      go_ret
      exact ⟨rfl, HB2.out⟩
  go_wp2_with fail
  refine (alive14 w1b).mono ?_
  rintro en w2 ⟨rfl, hb⟩
  have HB2 := Lib.hid (belows_then HB1b.out HB1b.out.size hb)
  clear hb HB1b
  go_wp2_with fail
  refine (set_any rows ra rc l la lc w2 (Sl.keep (fun k hk _ => HB2.out.block k hk) HS.out) hl (Sl.keep (fun k hk _ => HB2.out.block k hk) HT.out) hm).mono ?_
  rintro en w3 ⟨c, g, xa, fa, ga, xc, fc, gc, mb, rfl, hc, hg, _, _, hb⟩
  have HV := Lib.hid (fit_val 40 l)
  have hJl : (fitJ 40 l).length ≤ 40 := fitJ_len 40 l [] (by simp)
  have HGA : Hid (GoodA (setR rows)) := Lib.hid (setFold_good (rows.take 30) [] GoodA.nil)
  generalize fitJ 40 l = J at *
  generalize setR rows = r at *
  have HB3 := Lib.hid (belows_then HB2.out HB2.out.size hb)
  have HC3 := Lib.hid hc
  have HG3 := Lib.hid hg
  clear hc hg hb HB2 HS HT
  have hab : Below w3.heap.size w3 ((w3.alloc (.cells #[.int .i64 1000000, .int .i64 1000000, .int .i64 1000000] 65)).alloc (.cells #[.int .i64 e, .int .i64 sh, .int .i64 1000000, .int .i64 1000000, .int .i64 1000000] 67)) := ((Below.refl w3.heap.size w3).alloc (Nat.le_refl _) (.cells #[.int .i64 1000000, .int .i64 1000000, .int .i64 1000000] 65)).alloc (by simp) (.cells #[.int .i64 e, .int .i64 sh, .int .i64 1000000, .int .i64 1000000, .int .i64 1000000] 67)
  have HBx := Lib.hid (belows_then HB3.out HB3.out.size hab)
  have HCx := Lib.hid (HC3.out.below hab)
  have HGx := Lib.hid (HG3.out.below hab)
  have hbm : ((w3.alloc (.cells #[.int .i64 1000000, .int .i64 1000000, .int .i64 1000000] 65)).alloc (.cells #[.int .i64 e, .int .i64 sh, .int .i64 1000000, .int .i64 1000000, .int .i64 1000000] 67)).heap[w3.heap.size + 1]? = some (.cells #[.int .i64 e, .int .i64 sh, .int .i64 1000000, .int .i64 1000000, .int .i64 1000000] 67 (0, 0)) := by have := blk_new (w3.alloc (.cells #[.int .i64 1000000, .int .i64 1000000, .int .i64 1000000] 65)) (.cells #[.int .i64 e, .int .i64 sh, .int .i64 1000000, .int .i64 1000000, .int .i64 1000000] 67); simpa using this
  have HMS : Hid (Sl tMb ((w3.alloc (.cells #[.int .i64 1000000, .int .i64 1000000, .int .i64 1000000] 65)).alloc (.cells #[.int .i64 e, .int .i64 sh, .int .i64 1000000, .int .i64 1000000, .int .i64 1000000] 67)) (fun _ => True) (some ⟨w3.heap.size + 1, 0, none⟩) [oneM e sh]) := Lib.hid (mb_block (m := oneM e sh) hbm (oneM_wf he1 he2 hs1 hs3))
  have HFx := Lib.hid (blk_alloc (blk_new w3 (.cells #[.int .i64 1000000, .int .i64 1000000, .int .i64 1000000] 65)) (.cells #[.int .i64 e, .int .i64 sh, .int .i64 1000000, .int .i64 1000000, .int .i64 1000000] 67))
  have HMK := Lib.hid (grMake_any HCx.out HGx.out HV.out (by omega) p HPI.out [oneM e sh] (some ⟨w3.heap.size + 1, 0, none⟩) 1 HMS.out (by unfold maxLen; simp))
  obtain ⟨⟨⟨bl1, pl1, ou1, ot1, ow1, od1, on1⟩, er1⟩, hT1⟩ : ∃ T, grpT r [oneM e sh] J p = T := ⟨_, rfl⟩
  rw [mak_one he1 he2 hs1 hs3 HMO.out, hT1] at HMK
  have HTT1 := Lib.hid hT1
  clear hab hbm hT1 HMS
  go_wp2_with fail
  refine HMK.out.mono ?_
  rintro en w4 ⟨v, rfl, ho, hb⟩
  have HB4 := Lib.hid (belows_then HBx.out HBx.out.size hb)
  have HC4 := Lib.hid (HCx.out.below hb)
  have HG4 := Lib.hid (HGx.out.below hb)
  obtain ⟨ba1, bc1, rfl, -, -, hbs⟩ := ho.slice
  have HS1_4 := Lib.hid hbs
  have HRT4 := Lib.hid (blk_below HFx.out hb)
  clear ho hb hbs HBx HCx HGx HFx HMK HB3 HC3 HG3
  have hab : Below w4.heap.size w4 ((w4.alloc (.cells #[.slice ba1 bl1.length bc1, .int .i64 pl1, .int .i64 ou1, .int .i64 ot1, .int .i64 ow1, .int .i64 od1, .int .i64 on1] 51)).alloc (.cells #[.int .i64 e, .int .i64 (sh + more), .int .i64 1000000, .int .i64 1000000, .int .i64 1000000] 67)) := ((Below.refl w4.heap.size w4).alloc (Nat.le_refl _) (.cells #[.slice ba1 bl1.length bc1, .int .i64 pl1, .int .i64 ou1, .int .i64 ot1, .int .i64 ow1, .int .i64 od1, .int .i64 on1] 51)).alloc (by simp) (.cells #[.int .i64 e, .int .i64 (sh + more), .int .i64 1000000, .int .i64 1000000, .int .i64 1000000] 67)
  have HBx := Lib.hid (belows_then HB4.out HB4.out.size hab)
  have HCx := Lib.hid (HC4.out.below hab)
  have HGx := Lib.hid (HG4.out.below hab)
  have hbm : ((w4.alloc (.cells #[.slice ba1 bl1.length bc1, .int .i64 pl1, .int .i64 ou1, .int .i64 ot1, .int .i64 ow1, .int .i64 od1, .int .i64 on1] 51)).alloc (.cells #[.int .i64 e, .int .i64 (sh + more), .int .i64 1000000, .int .i64 1000000, .int .i64 1000000] 67)).heap[w4.heap.size + 1]? = some (.cells #[.int .i64 e, .int .i64 (sh + more), .int .i64 1000000, .int .i64 1000000, .int .i64 1000000] 67 (0, 0)) := by have := blk_new (w4.alloc (.cells #[.slice ba1 bl1.length bc1, .int .i64 pl1, .int .i64 ou1, .int .i64 ot1, .int .i64 ow1, .int .i64 od1, .int .i64 on1] 51)) (.cells #[.int .i64 e, .int .i64 (sh + more), .int .i64 1000000, .int .i64 1000000, .int .i64 1000000] 67); simpa using this
  have HMS : Hid (Sl tMb ((w4.alloc (.cells #[.slice ba1 bl1.length bc1, .int .i64 pl1, .int .i64 ou1, .int .i64 ot1, .int .i64 ow1, .int .i64 od1, .int .i64 on1] 51)).alloc (.cells #[.int .i64 e, .int .i64 (sh + more), .int .i64 1000000, .int .i64 1000000, .int .i64 1000000] 67)) (fun _ => True) (some ⟨w4.heap.size + 1, 0, none⟩) [oneM e (sh + more)]) := Lib.hid (mb_block (m := oneM e (sh + more)) hbm (oneM_wf he1 he2 (by omega) (by omega)))
  have HFx := Lib.hid (blk_alloc (blk_new w4 (.cells #[.slice ba1 bl1.length bc1, .int .i64 pl1, .int .i64 ou1, .int .i64 ot1, .int .i64 ow1, .int .i64 od1, .int .i64 on1] 51)) (.cells #[.int .i64 e, .int .i64 (sh + more), .int .i64 1000000, .int .i64 1000000, .int .i64 1000000] 67))
  have HMK := Lib.hid (grMake_any HCx.out HGx.out HV.out (by omega) p HPI.out [oneM e (sh + more)] (some ⟨w4.heap.size + 1, 0, none⟩) 1 HMS.out (by unfold maxLen; simp))
  obtain ⟨⟨⟨bl2, pl2, ou2, ot2, ow2, od2, on2⟩, er2⟩, hT2⟩ : ∃ T, grpT r [oneM e (sh + more)] J p = T := ⟨_, rfl⟩
  rw [mak_one he1 he2 (by omega) (by omega) HMO.out, hT2] at HMK
  have HTT2 := Lib.hid hT2
  clear hab hbm hT2 HMS
  have hcr := blk_cells (blk_alloc HRT4.out (.cells #[.slice ba1 bl1.length bc1, .int .i64 pl1, .int .i64 ou1, .int .i64 ot1, .int .i64 ow1, .int .i64 od1, .int .i64 on1] 51))
  have hlr := blk_lt (blk_alloc HRT4.out (.cells #[.slice ba1 bl1.length bc1, .int .i64 pl1, .int .i64 ou1, .int .i64 ot1, .int .i64 ow1, .int .i64 od1, .int .i64 on1] 51))
  go_wp2_with fail
  refine HMK.out.mono ?_
  rintro en w5 ⟨v, rfl, ho, hb⟩
  have HB5 := Lib.hid (belows_then HBx.out HBx.out.size hb)
  have HC5 := Lib.hid (HCx.out.below hb)
  have HG5 := Lib.hid (HGx.out.below hb)
  obtain ⟨ba2, bc2, rfl, -, -, hbs⟩ := ho.slice
  have HS2_5 := Lib.hid hbs
  have HRT5 := Lib.hid (blk_below (blk_alloc (blk_alloc HRT4.out (.cells #[.slice ba1 bl1.length bc1, .int .i64 pl1, .int .i64 ou1, .int .i64 ot1, .int .i64 ow1, .int .i64 od1, .int .i64 on1] 51)) (.cells #[.int .i64 e, .int .i64 (sh + more), .int .i64 1000000, .int .i64 1000000, .int .i64 1000000] 67)) hb)
  have HZ1_5 := Lib.hid (blk_below HFx.out hb)
  have HS1_5 := Lib.hid (Sl.keep (fun k hk _ => (hb.block k (by simp; omega)).trans ((Below.heap_alloc _ _ k (by simp; omega)).trans (Below.heap_alloc _ _ k hk))) HS1_4.out)
  clear ho hb hbs HBx HCx HGx HFx HMK HB4 HC4 HG4 hcr hlr HRT4 HS1_4
  have hab : Below w5.heap.size w5 ((w5.alloc (.cells #[.slice ba2 bl2.length bc2, .int .i64 pl2, .int .i64 ou2, .int .i64 ot2, .int .i64 ow2, .int .i64 od2, .int .i64 on2] 51)).alloc (.cells #[.int .i64 e, .int .i64 0, .int .i64 1000000, .int .i64 1000000, .int .i64 1000000] 67)) := ((Below.refl w5.heap.size w5).alloc (Nat.le_refl _) (.cells #[.slice ba2 bl2.length bc2, .int .i64 pl2, .int .i64 ou2, .int .i64 ot2, .int .i64 ow2, .int .i64 od2, .int .i64 on2] 51)).alloc (by simp) (.cells #[.int .i64 e, .int .i64 0, .int .i64 1000000, .int .i64 1000000, .int .i64 1000000] 67)
  have HBx := Lib.hid (belows_then HB5.out HB5.out.size hab)
  have HCx := Lib.hid (HC5.out.below hab)
  have HGx := Lib.hid (HG5.out.below hab)
  have hbm : ((w5.alloc (.cells #[.slice ba2 bl2.length bc2, .int .i64 pl2, .int .i64 ou2, .int .i64 ot2, .int .i64 ow2, .int .i64 od2, .int .i64 on2] 51)).alloc (.cells #[.int .i64 e, .int .i64 0, .int .i64 1000000, .int .i64 1000000, .int .i64 1000000] 67)).heap[w5.heap.size + 1]? = some (.cells #[.int .i64 e, .int .i64 0, .int .i64 1000000, .int .i64 1000000, .int .i64 1000000] 67 (0, 0)) := by have := blk_new (w5.alloc (.cells #[.slice ba2 bl2.length bc2, .int .i64 pl2, .int .i64 ou2, .int .i64 ot2, .int .i64 ow2, .int .i64 od2, .int .i64 on2] 51)) (.cells #[.int .i64 e, .int .i64 0, .int .i64 1000000, .int .i64 1000000, .int .i64 1000000] 67); simpa using this
  have HMS : Hid (Sl tMb ((w5.alloc (.cells #[.slice ba2 bl2.length bc2, .int .i64 pl2, .int .i64 ou2, .int .i64 ot2, .int .i64 ow2, .int .i64 od2, .int .i64 on2] 51)).alloc (.cells #[.int .i64 e, .int .i64 0, .int .i64 1000000, .int .i64 1000000, .int .i64 1000000] 67)) (fun _ => True) (some ⟨w5.heap.size + 1, 0, none⟩) [oneM e 0]) := Lib.hid (mb_block (m := oneM e 0) hbm (oneM_wf he1 he2 (by decide) (by decide)))
  have HFx := Lib.hid (blk_alloc (blk_new w5 (.cells #[.slice ba2 bl2.length bc2, .int .i64 pl2, .int .i64 ou2, .int .i64 ot2, .int .i64 ow2, .int .i64 od2, .int .i64 on2] 51)) (.cells #[.int .i64 e, .int .i64 0, .int .i64 1000000, .int .i64 1000000, .int .i64 1000000] 67))
  have HMK := Lib.hid (grMake_any HCx.out HGx.out HV.out (by omega) p HPI.out [oneM e 0] (some ⟨w5.heap.size + 1, 0, none⟩) 1 HMS.out (by unfold maxLen; simp))
  obtain ⟨⟨⟨bl3, pl3, ou3, ot3, ow3, od3, on3⟩, er3⟩, hT3⟩ : ∃ T, grpT r [oneM e 0] J p = T := ⟨_, rfl⟩
  rw [mak_one he1 he2 (by decide) (by decide) HMO.out, hT3] at HMK
  have HTT3 := Lib.hid hT3
  clear hab hbm hT3 HMS
  have hcr := blk_cells (blk_alloc HRT5.out (.cells #[.slice ba2 bl2.length bc2, .int .i64 pl2, .int .i64 ou2, .int .i64 ot2, .int .i64 ow2, .int .i64 od2, .int .i64 on2] 51))
  have hlr := blk_lt (blk_alloc HRT5.out (.cells #[.slice ba2 bl2.length bc2, .int .i64 pl2, .int .i64 ou2, .int .i64 ot2, .int .i64 ow2, .int .i64 od2, .int .i64 on2] 51))
  go_wp2_with fail
  refine HMK.out.mono ?_
  rintro en w6 ⟨v, rfl, ho, hb⟩
  have HB6 := Lib.hid (belows_then HBx.out HBx.out.size hb)
  have HC6 := Lib.hid (HCx.out.below hb)
  have HG6 := Lib.hid (HGx.out.below hb)
  obtain ⟨ba3, bc3, rfl, -, -, hbs⟩ := ho.slice
  have HS3_6 := Lib.hid hbs
  have HRT6 := Lib.hid (blk_below (blk_alloc (blk_alloc HRT5.out (.cells #[.slice ba2 bl2.length bc2, .int .i64 pl2, .int .i64 ou2, .int .i64 ot2, .int .i64 ow2, .int .i64 od2, .int .i64 on2] 51)) (.cells #[.int .i64 e, .int .i64 0, .int .i64 1000000, .int .i64 1000000, .int .i64 1000000] 67)) hb)
  have HZ2_6 := Lib.hid (blk_below HFx.out hb)
  have HZ1_6 := Lib.hid (blk_below (blk_alloc (blk_alloc HZ1_5.out (.cells #[.slice ba2 bl2.length bc2, .int .i64 pl2, .int .i64 ou2, .int .i64 ot2, .int .i64 ow2, .int .i64 od2, .int .i64 on2] 51)) (.cells #[.int .i64 e, .int .i64 0, .int .i64 1000000, .int .i64 1000000, .int .i64 1000000] 67)) hb)
  have HS1_6 := Lib.hid (Sl.keep (fun k hk _ => (hb.block k (by simp; omega)).trans ((Below.heap_alloc _ _ k (by simp; omega)).trans (Below.heap_alloc _ _ k hk))) HS1_5.out)
  have HS2_6 := Lib.hid (Sl.keep (fun k hk _ => (hb.block k (by simp; omega)).trans ((Below.heap_alloc _ _ k (by simp; omega)).trans (Below.heap_alloc _ _ k hk))) HS2_5.out)
  clear ho hb hbs HBx HCx HGx HFx HMK HB5 HC5 HG5 hcr hlr HRT5 HZ1_5 HS1_5 HS2_5
  have hab : Below w6.heap.size w6 ((w6.alloc (.cells #[.slice ba3 bl3.length bc3, .int .i64 pl3, .int .i64 ou3, .int .i64 ot3, .int .i64 ow3, .int .i64 od3, .int .i64 on3] 51)).alloc (.cells #[.int .i64 e, .int .i64 10000, .int .i64 1000000, .int .i64 1000000, .int .i64 1000000] 67)) := ((Below.refl w6.heap.size w6).alloc (Nat.le_refl _) (.cells #[.slice ba3 bl3.length bc3, .int .i64 pl3, .int .i64 ou3, .int .i64 ot3, .int .i64 ow3, .int .i64 od3, .int .i64 on3] 51)).alloc (by simp) (.cells #[.int .i64 e, .int .i64 10000, .int .i64 1000000, .int .i64 1000000, .int .i64 1000000] 67)
  have HBx := Lib.hid (belows_then HB6.out HB6.out.size hab)
  have HCx := Lib.hid (HC6.out.below hab)
  have HGx := Lib.hid (HG6.out.below hab)
  have hbm : ((w6.alloc (.cells #[.slice ba3 bl3.length bc3, .int .i64 pl3, .int .i64 ou3, .int .i64 ot3, .int .i64 ow3, .int .i64 od3, .int .i64 on3] 51)).alloc (.cells #[.int .i64 e, .int .i64 10000, .int .i64 1000000, .int .i64 1000000, .int .i64 1000000] 67)).heap[w6.heap.size + 1]? = some (.cells #[.int .i64 e, .int .i64 10000, .int .i64 1000000, .int .i64 1000000, .int .i64 1000000] 67 (0, 0)) := by have := blk_new (w6.alloc (.cells #[.slice ba3 bl3.length bc3, .int .i64 pl3, .int .i64 ou3, .int .i64 ot3, .int .i64 ow3, .int .i64 od3, .int .i64 on3] 51)) (.cells #[.int .i64 e, .int .i64 10000, .int .i64 1000000, .int .i64 1000000, .int .i64 1000000] 67); simpa using this
  have HMS : Hid (Sl tMb ((w6.alloc (.cells #[.slice ba3 bl3.length bc3, .int .i64 pl3, .int .i64 ou3, .int .i64 ot3, .int .i64 ow3, .int .i64 od3, .int .i64 on3] 51)).alloc (.cells #[.int .i64 e, .int .i64 10000, .int .i64 1000000, .int .i64 1000000, .int .i64 1000000] 67)) (fun _ => True) (some ⟨w6.heap.size + 1, 0, none⟩) [oneM e 10000]) := Lib.hid (mb_block (m := oneM e 10000) hbm (oneM_wf he1 he2 (by decide) (by decide)))
  have HFx := Lib.hid (blk_alloc (blk_new w6 (.cells #[.slice ba3 bl3.length bc3, .int .i64 pl3, .int .i64 ou3, .int .i64 ot3, .int .i64 ow3, .int .i64 od3, .int .i64 on3] 51)) (.cells #[.int .i64 e, .int .i64 10000, .int .i64 1000000, .int .i64 1000000, .int .i64 1000000] 67))
  have HMK := Lib.hid (grMake_any HCx.out HGx.out HV.out (by omega) p HPI.out [oneM e 10000] (some ⟨w6.heap.size + 1, 0, none⟩) 1 HMS.out (by unfold maxLen; simp))
  obtain ⟨⟨⟨bl4, pl4, ou4, ot4, ow4, od4, on4⟩, er4⟩, hT4⟩ : ∃ T, grpT r [oneM e 10000] J p = T := ⟨_, rfl⟩
  rw [mak_one he1 he2 (by decide) (by decide) HMO.out, hT4] at HMK
  have HTT4 := Lib.hid hT4
  clear hab hbm hT4 HMS
  have hcr := blk_cells (blk_alloc HRT6.out (.cells #[.slice ba3 bl3.length bc3, .int .i64 pl3, .int .i64 ou3, .int .i64 ot3, .int .i64 ow3, .int .i64 od3, .int .i64 on3] 51))
  have hlr := blk_lt (blk_alloc HRT6.out (.cells #[.slice ba3 bl3.length bc3, .int .i64 pl3, .int .i64 ou3, .int .i64 ot3, .int .i64 ow3, .int .i64 od3, .int .i64 on3] 51))
  go_wp2_with fail
  refine HMK.out.mono ?_
  rintro en w7 ⟨v, rfl, ho, hb⟩
  have HB7 := Lib.hid (belows_then HBx.out HBx.out.size hb)
  have HC7 := Lib.hid (HCx.out.below hb)
  have HG7 := Lib.hid (HGx.out.below hb)
  obtain ⟨ba4, bc4, rfl, -, -, hbs⟩ := ho.slice
  have HS4_7 := Lib.hid hbs
  have HRT7 := Lib.hid (blk_below (blk_alloc (blk_alloc HRT6.out (.cells #[.slice ba3 bl3.length bc3, .int .i64 pl3, .int .i64 ou3, .int .i64 ot3, .int .i64 ow3, .int .i64 od3, .int .i64 on3] 51)) (.cells #[.int .i64 e, .int .i64 10000, .int .i64 1000000, .int .i64 1000000, .int .i64 1000000] 67)) hb)
  have HZ3_7 := Lib.hid (blk_below HFx.out hb)
  have HZ1_7 := Lib.hid (blk_below (blk_alloc (blk_alloc HZ1_6.out (.cells #[.slice ba3 bl3.length bc3, .int .i64 pl3, .int .i64 ou3, .int .i64 ot3, .int .i64 ow3, .int .i64 od3, .int .i64 on3] 51)) (.cells #[.int .i64 e, .int .i64 10000, .int .i64 1000000, .int .i64 1000000, .int .i64 1000000] 67)) hb)
  have HZ2_7 := Lib.hid (blk_below (blk_alloc (blk_alloc HZ2_6.out (.cells #[.slice ba3 bl3.length bc3, .int .i64 pl3, .int .i64 ou3, .int .i64 ot3, .int .i64 ow3, .int .i64 od3, .int .i64 on3] 51)) (.cells #[.int .i64 e, .int .i64 10000, .int .i64 1000000, .int .i64 1000000, .int .i64 1000000] 67)) hb)
  have HS1_7 := Lib.hid (Sl.keep (fun k hk _ => (hb.block k (by simp; omega)).trans ((Below.heap_alloc _ _ k (by simp; omega)).trans (Below.heap_alloc _ _ k hk))) HS1_6.out)
  have HS2_7 := Lib.hid (Sl.keep (fun k hk _ => (hb.block k (by simp; omega)).trans ((Below.heap_alloc _ _ k (by simp; omega)).trans (Below.heap_alloc _ _ k hk))) HS2_6.out)
  have HS3_7 := Lib.hid (Sl.keep (fun k hk _ => (hb.block k (by simp; omega)).trans ((Below.heap_alloc _ _ k (by simp; omega)).trans (Below.heap_alloc _ _ k hk))) HS3_6.out)
  clear ho hb hbs HBx HCx HGx HFx HMK HB6 HC6 HG6 hcr hlr HRT6 HZ1_6 HZ2_6 HS1_6 HS2_6 HS3_6
  have hab : Below w7.heap.size w7 (w7.alloc (.cells #[.slice ba4 bl4.length bc4, .int .i64 pl4, .int .i64 ou4, .int .i64 ot4, .int .i64 ow4, .int .i64 od4, .int .i64 on4] 51)) := (Below.refl _ _).alloc (Nat.le_refl _) _
  have HB8 := Lib.hid (belows_then HB7.out HB7.out.size hab)
  clear hab HC7 HG7 HRT7
  cases q1 : er1 == 0
  · have q2 : (er1 != 0) = true := by simpa using q1
    clear q1
    go_wp2_with fail
    go_ret
    exact ⟨rfl, HB8.out⟩
  obtain rfl : er1 = 0 := by simpa using q1
  clear q1
  cases q1 : er2 == 0
  · have q2 : (er2 != 0) = true := by simpa using q1
    clear q1
    go_wp2_with fail
    go_ret
    exact ⟨rfl, HB8.out⟩
  obtain rfl : er2 = 0 := by simpa using q1
  clear q1
  cases q1 : er3 == 0
  · have q2 : (er3 != 0) = true := by simpa using q1
    clear q1
    go_wp2_with fail
    go_ret
    exact ⟨rfl, HB8.out⟩
  obtain rfl : er3 = 0 := by simpa using q1
  clear q1
  cases q1 : er4 == 0
  · have q2 : (er4 != 0) = true := by simpa using q1
    clear q1
    go_wp2_with fail
    go_ret
    exact ⟨rfl, HB8.out⟩
  obtain rfl : er4 = 0 := by simpa using q1
  clear q1
  have hsp := shares_plain (r := r) (J := J) HGA.out HV.out (e := e) (p := p) (sh := sh) (more := more) hs2 hs3 hs4 (by rw [HTT1.out]) (by rw [HTT2.out]) (by rw [HTT3.out]) (by rw [HTT4.out])
  rw [HTT1.out, HTT2.out, HTT3.out, HTT4.out] at hsp
  obtain ⟨k1, k2, k3, k4, k5, k6⟩ := hsp
  simp only at k1 k2 k3 k4 k5 k6
  have f1 : fitsB ot1 = true := by have := oth_fit r [oneM e sh] J p; rw [HTT1.out] at this; exact this
  have f2 : fitsB ot2 = true := by have := oth_fit r [oneM e (sh + more)] J p; rw [HTT2.out] at this; exact this
  have b1 : -1000000000000000 ≤ ot1 ∧ ot1 ≤ 1000000000000000 := by simpa [fitsB] using f1
  have b2 : -1000000000000000 ≤ ot2 ∧ ot2 ≤ 1000000000000000 := by simpa [fitsB] using f2
  have hbl : bl1.length ≤ maxLen := by
    have := (grp_one HV.out (e := e) (p := p) (sh := sh) (by rw [HTT1.out])).2
    obtain ⟨_, _, _, _, h⟩ := this
    rw [HTT1.out] at h
    have h2 : bl1 = accR J e 0 p := congrArg GrpR.bal h
    rw [h2]
    have h3 := tellS_len (accS [] (linesOf J e 0 p))
    have h4 := accS_len (linesOf J e 0 p) []
    have h5 := linesOf_len HV.out.good (by omega) e 0 p
    simp only [List.length_nil] at h4
    unfold accR
    unfold maxLen
    omega
  clear f1 f2 HTT1 HTT2 HTT3 HTT4
  subst k2 k3 k4 k5 k6
  have HZA1 := Lib.hid (blk_alloc HZ1_7.out (.cells #[.slice ba4 bl4.length bc4, .int .i64 pl4, .int .i64 ou4, .int .i64 0, .int .i64 ow4, .int .i64 od1, .int .i64 on4] 51))
  have HZA2 := Lib.hid (blk_alloc HZ2_7.out (.cells #[.slice ba4 bl4.length bc4, .int .i64 pl4, .int .i64 ou4, .int .i64 0, .int .i64 ow4, .int .i64 od1, .int .i64 on4] 51))
  have HZA3 := Lib.hid (blk_alloc HZ3_7.out (.cells #[.slice ba4 bl4.length bc4, .int .i64 pl4, .int .i64 ou4, .int .i64 0, .int .i64 ow4, .int .i64 od1, .int .i64 on4] 51))
  have HZA4 := Lib.hid (blk_new w7 (.cells #[.slice ba4 bl4.length bc4, .int .i64 pl4, .int .i64 ou4, .int .i64 0, .int .i64 ow4, .int .i64 od1, .int .i64 on4] 51))
  have HSA1 := Lib.hid (Sl.keep (fun k hk _ => Below.heap_alloc w7 (.cells #[.slice ba4 bl4.length bc4, .int .i64 pl4, .int .i64 ou4, .int .i64 0, .int .i64 ow4, .int .i64 od1, .int .i64 on4] 51) k hk) HS1_7.out)
  have HSA2 := Lib.hid (Sl.keep (fun k hk _ => Below.heap_alloc w7 (.cells #[.slice ba4 bl4.length bc4, .int .i64 pl4, .int .i64 ou4, .int .i64 0, .int .i64 ow4, .int .i64 od1, .int .i64 on4] 51) k hk) HS2_7.out)
  have hz1 := blk_cells HZA1.out
  have hz2 := blk_cells HZA2.out
  have hz3 := blk_cells HZA3.out
  have hz4 := blk_cells HZA4.out
  have hl1 := blk_lt HZA1.out
  have hl2 := blk_lt HZA2.out
  have hl3 := blk_lt HZA3.out
  clear HZ1_7 HZ2_7 HZ3_7 HS1_7 HS2_7 HS3_7
  go_wp2_with fail
  refine (sameBal_is bl1 bl1 ba1 ba2 bc1 bc2 _ HSA1.out HSA2.out hbl hbl rfl).mono ?_
  rintro en w9 ⟨rfl, hb⟩
  have HB9 := Lib.hid (belows_then HB8.out HB8.out.size hb)
  have hy1 := blk_cells (blk_below HZA1.out hb)
  have hy3 := blk_cells (blk_below HZA3.out hb)
  have hy4 := blk_cells (blk_below HZA4.out hb)
  clear hb
  go_wp2_with fail
  go_ret
  exact ⟨by first | rfl | simp, HB9.out⟩
theorem groupShares_row (a0 : Option Addr) (len0 cap0 : Nat) (x0 : List Ac) (a1 : Option Addr) (len1 cap1 : Nat) (x1 : List Jn) (a2 a3 a4 a5 : Int) (w : World) (y0 : tAcs.R w (fun _ => True) [.slice a0 len0 cap0] x0) (y1 : tJns.R w (fun _ => True) [.slice a1 len1 cap1] x1) (w2 : I64 a2) (w3 : I64 a3) (w4 : I64 a4) (w5 : I64 a5) :
    Calls Tryz.prog 5 #[.slice a0 len0 cap0, .slice a1 len1 cap1, .int .i64 a2, .int .i64 a3, .int .i64 a4, .int .i64 a5] w fun en w' => en = .returned (.bool true) ∧ Below w.heap.size w w' := by
  obtain ⟨a, cap, he, hs, hle, hcm, _⟩ := y0
  simp only [List.cons.injEq, Value.slice.injEq, and_true] at he
  obtain ⟨rfl, rfl, rfl⟩ := he
  obtain ⟨a', cap', he, hs', hle', hcm', _⟩ := y1
  simp only [List.cons.injEq, Value.slice.injEq, and_true] at he
  obtain ⟨rfl, rfl, rfl⟩ := he
  exact groupShares_any x0 _ _ x1 _ _ a2 a3 a4 a5 w3 w hs (Nat.le_trans hle hcm) hs' (Nat.le_trans hle' hcm')
end Go.Proofs.YtbgkladgeijgdaaGreat
