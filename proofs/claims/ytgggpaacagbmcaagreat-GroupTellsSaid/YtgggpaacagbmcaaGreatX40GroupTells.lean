/- The document's balances in another money. -/
import Derived.Test.YtgggpaacagbmcaaGreatX23GroupTells
import Derived.Test.YtgggpaacagbmcaaGreatX33GroupTells
import Derived.Test.YtgggpaacagbmcaaGreatX20GroupTells
import Derived.Test.YtgggpaacagbmcaaGreatX22GroupTells
set_option linter.unusedVariables false
set_option linter.unusedSimpArgs false
namespace Go.Proofs.YtgggpaacagbmcaaGreat
open Go.RowKit Go.Maps Go.Deep

/-- the amounts in another money, those of 0 too -/
def trnA (r : List Ac) (m : Mb) (l : List (Int × Int)) : List Int := l.map (fun x => (scaleT x.2 (rateK m (kindA r x.1)) 1000000).1)
theorem trnA_succ (r : List Ac) (m : Mb) (l : List (Int × Int)) (n : Nat) (hn : n < l.length) : trnA r m (l.take (n + 1)) = trnA r m (l.take n) ++ [(scaleT l[n].2 (rateK m (kindA r l[n].1)) 1000000).1] := by
  unfold trnA
  rw [List.take_succ_eq_append_getElem hn, List.map_append]
  rfl
theorem trnA_add (r : List Ac) (m : Mb) (l : List (Int × Int)) : addM (trnA r m l) = addM ((trnL r m l).map (·.2)) := by
  rw [← addM_nz (trnA r m l)]
  congr 1
  unfold trnA trnL
  rw [List.filter_map, List.filter_map, List.map_map]
  rfl
set_option maxHeartbeats 8000000 in
set_option maxRecDepth 100000 in
theorem r10Turn_any (r : List Ac) (ra : Option Addr) (rc : Nat) {m : Mb} (hm : mbB m = true) (l : List (Int × Int)) (a : Option Addr) (cap : Nat) (w : World) {F G : Nat → Prop} (hr : Sl tAc w G ra r) (hrl : r.length ≤ 1000) (hs : Sl tBal w F a l) (hl : l.length ≤ 800) (hf : ∀ x ∈ l, fitsB x.2 = true) :
    Calls Tryz.prog 35 #[.slice ra r.length rc, .slice a l.length cap, .agg #[.int .i64 m.cl, .int .i64 m.av, .int .i64 m.ol]] w (TrnPost w (trnT r m l)) := by
  have hrates : (1 ≤ m.cl ∧ m.cl ≤ 1000000000) ∧ (1 ≤ m.av ∧ m.av ≤ 1000000000) ∧ (1 ≤ m.ol ∧ m.ol ≤ 1000000000) := by
    unfold mbB rateB at hm
    simp at hm
    omega
  have HRS := Lib.hid hr
  have HS := Lib.hid hs
  have HF := Lib.hid hf
  have HM := Lib.hid hm
  obtain ⟨T, hT⟩ : ∃ T, trnT r m l = T := ⟨_, rfl⟩
  rw [hT]
  have HT := Lib.hid hT
  obtain ⟨x, y, z, hx, hy, hz⟩ : ∃ x y z, m.cl = x ∧ m.av = y ∧ m.ol = z := ⟨_, _, _, rfl, rfl, rfl⟩
  have HRK := Lib.hid (fun k => by
    have := rateK_is m k
    rw [hx, hy, hz] at this
    exact this)
  rw [hx, hy, hz] at hrates
  rw [hx, hy, hz]
  have HZ0 := Lib.hid (blk_new w (.cells #[.int .i64 x, .int .i64 y, .int .i64 z] 75))
  have HB0 := Lib.hid ((Below.refl w.heap.size w).alloc (Nat.le_refl _) (.cells #[.int .i64 x, .int .i64 y, .int .i64 z] 75))
  obtain ⟨⟨x1, x2⟩, ⟨y1, y2⟩, z1, z2⟩ := hrates
  clear hr hs hf hm hT hx hy hz
  obtain ⟨j0, hj, hy0, hy1, hy2⟩ := info_parts infoBal
  obtain ⟨i0, hi, hz0, hz1, hz2⟩ := info_parts infoInt
  have hcc := blk_cells HZ0.out
  go_enter Tryz.func35, Tryz.ntmps35
  go_wp2_with fail
  refine abs_world (S := fun wx => wx.heap[w.heap.size]? = some (.cells #[.int .i64 x, .int .i64 y, .int .i64 z] 75 (0, 0)) ∧ Below w.heap.size w wx) ?_ ⟨HZ0.out, HB0.out⟩
  clear hcc
  rintro wx ⟨hzx, hbx⟩
  have HZX := Lib.hid hzx
  have HBX := Lib.hid hbx
  have hcc := blk_cells hzx
  have hcl := blk_lt hzx
  clear hzx hbx HZ0 HB0
  refine wp_loop_rounds 4 ?_
  rw [rounds_succ]
  go_wp2_with fail
  rw [rounds_succ]
  go_wp2_with fail
  rw [rounds_succ]
  go_wp2_with fail
  rw [rounds_succ]
  go_wp2_with fail
  go_loopw [10, 11, 12] (fun vo va vi wr => ∃ (n : Nat) (vx vy : Value), vx = vo ∧ vy = va ∧ n ≤ l.length ∧ vi = .int .i64 n ∧ OwnL tBal wr w.heap.size vx (trnL r m (l.take n)) ∧ OwnL tInt wr w.heap.size vy (trnA r m (l.take n)) ∧ ApartV vx vy ∧ Below w.heap.size w wr ∧ wr.heap[w.heap.size]? = some (.cells #[.int .i64 x, .int .i64 y, .int .i64 z] 75 (0, 0)) ∧ Hid (trnB r m (l.take n) = true)) (fun _ _ vi _ => l.length - (intOf vi).toNat)
  case atStart => exact ⟨0, _, _, rfl, rfl, Nat.zero_le _, rfl, OwnL.nil _ _, OwnL.nil _ _, .inl rfl, HBX.out, HZX.out, Lib.hid rfl⟩
  case round =>
    obtain ⟨n, vo, va, rfl, rfl, hn, rfl, ho, hp, hap, hb, hz, hok⟩ := hrel
    have HO := Lib.hid ho
    have HP := Lib.hid hp
    have HAP := Lib.hid hap
    have HB := Lib.hid hb
    have HZR := Lib.hid hz
    clear ho hp hap hb hz hcc
    by_cases hlt : n < l.length
    · obtain ⟨ad, rfl, _, hadl, hc0, hc1, g0, g1⟩ := bal_at (Sl.keep (fun k hk _ => HB.out.block k hk) HS.out) n hlt
      have HLS := Lib.hid (trnL_succ r m l n hlt)
      have HAS := Lib.hid (trnA_succ r m l n hlt)
      have HBS := Lib.hid (trnB_succ r m l n hlt)
      have HBN := Lib.hid (trnB_no r m l n hlt)
      have HFI := Lib.hid (HF.out _ (List.getElem_mem hlt))
      have hnum : (trnL r m (l.take n)).length ≤ 800 := by
        have := trnL_len r m (l.take n)
        rw [List.length_take] at this
        omega
      have hnumA : (trnA r m (l.take n)).length ≤ 800 := by unfold trnA; rw [List.length_map, List.length_take]; omega
      generalize l[n] = xx at *
      obtain ⟨k, v⟩ := xx
      simp only at hc0 hc1 g0 g1
      have G0 := Lib.hid g0
      have hcr := blk_cells HZR.out
      have hlr := blk_lt HZR.out
      have HKD := Lib.hid (r10kind_any r ra rc k wr (Sl.keep (fun k hk _ => HB.out.block k hk) HRS.out) (by unfold maxLen; omega))
      have HRK2 := Lib.hid (HRK.out (kindA r k))
      obtain ⟨kk, hkk⟩ : ∃ kk, kindA r k = kk := ⟨_, rfl⟩
      rw [hkk] at HKD HRK2
      simp only [hkk] at HLS HAS HBS HBN
      clear g0 g1 hkk
      go_wp2_with fail
      refine HKD.out.mono ?_
      rintro en w2 ⟨rfl, hb⟩
      have HB2 := Lib.hid (belows_then HB.out HB.out.size hb)
      have HZ2 := Lib.hid (blk_below HZR.out hb)
      have HO2 := Lib.hid (HO.out.below hb)
      have HP2 := Lib.hid (HP.out.below hb)
      have hcr2 := blk_cells HZ2.out
      have hlr2 := blk_lt HZ2.out
      obtain ⟨had0, had1⟩ : w2.cell? (ad.add (n * 2)) = some (.int .i64 k) ∧ w2.cell? ⟨(ad.add (n * 2)).block, (ad.add (n * 2)).off + 1, none⟩ = some (.int .i64 v) := ⟨(World.cell?_of_block (w := wr) (by rw [add_block]; exact hb.block _ hadl)).trans hc0, (World.cell?_of_block (w := wr) (by show w2.heap[(ad.add (n * 2)).block]? = _; rw [add_block]; exact hb.block _ hadl)).trans hc1⟩
      have hadl2 : ad.block < w2.heap.size := Nat.lt_of_lt_of_le hadl hb.size
      clear hb HKD hc0 hc1 hadl hcr hlr HZR
      rcases (show kk = 4 ∨ kk ≠ 4 ∧ (kk = 5 ∨ kk ≠ 5 ∧ (kk = 3 ∨ kk ≠ 3)) by omega) with h4 | ⟨h4, h5 | ⟨h5, h3 | h3⟩⟩
      · have HRT : Hid (rateK m kk = y ∧ 1 ≤ y ∧ y ≤ 1000000000) := Lib.hid ⟨by rw [HRK2.out, h4]; rfl, y1, y2⟩
        have g4 : (kk == 4) = true := by simpa using h4
        clear h4
        have HSC := Lib.hid (fun V => rscale_any (a := v) (n := y) (d := 1000000) V HFI.out (by have := HRT.out; omega) HRT.out.2.2 (by decide) (by decide))
        simp only [HRT.out.1] at HLS HAS HBS HBN
        have herr := scaleT_err v y 1000000
        have hfit := scaleT_fit (a := v) (n := y) (d := 1000000)
        obtain ⟨⟨s, er⟩, hs⟩ : ∃ t, scaleT v y 1000000 = t := ⟨_, rfl⟩
        rw [hs] at herr hfit HSC HLS HAS HBS HBN
        simp only at herr hfit HLS HAS HBS HBN
        have HFT := Lib.hid hfit
        clear hfit hs
        go_wp2_with fail
        refine (HSC.out _).mono ?_
        rintro en w3 ⟨rfl, hb⟩
        have HB3 := Lib.hid (belows_then HB2.out HB2.out.size hb)
        have HZ3 := Lib.hid (blk_below HZ2.out hb)
        have HO3 := Lib.hid (HO2.out.below hb)
        have HP3 := Lib.hid (HP2.out.below hb)
        have had3 : w3.cell? (ad.add (n * 2)) = some (.int .i64 k) := (World.cell?_of_block (w := w2) (by rw [add_block]; exact hb.block _ hadl2)).trans had0
        have hadl3 : ad.block < w3.heap.size := Nat.lt_of_lt_of_le hadl2 hb.size
        clear hb HSC had0 had1 hadl2 hcr2 hlr2 HB2 HZ2 HO2 HP2
        rcases herr with rfl | rfl
        · have HB1' : Hid (trnB r m (l.take (n + 1)) = true) := Lib.hid (by rw [HBS.out, hok.out]; rfl)
          have hsb : -1000000000000000 ≤ s ∧ s ≤ 1000000000000000 := by simpa [fitsB] using HFT.out
          have HSW : Hid (I64 s) := Lib.hid (by unfold I64 Lit.wf; simp [IntKind.min, IntKind.max, IntKind.bits, IntKind.signed]; omega)
          obtain ⟨XL, hXL⟩ : ∃ X, trnL r m (l.take n) = X := ⟨_, rfl⟩
          obtain ⟨XA, hXA⟩ : ∃ X, trnA r m (l.take n) = X := ⟨_, rfl⟩
          have hnl := hnum
          have hna := hnumA
          rw [hXL] at HLS HO3 hnl
          rw [hXA] at HAS HP3 hna
          clear hXL hXA
          cases hs0 : s == 0
          · have hs1 : (s != 0) = true := by simpa using hs0
            have hsz : s ≠ 0 := by simpa using hs0
            have HN1 : Hid (trnL r m (l.take (n + 1)) = XL ++ [(k, s)]) := Lib.hid (by rw [HLS.out]; simp [hsz])
            have HOA := Lib.hid (HO3.out.alloc (.cells #[.int .i64 k, .int .i64 s] 62))
            have HBA := Lib.hid (HB3.out.alloc HB3.out.size (.cells #[.int .i64 k, .int .i64 s] 62))
            have HPA := Lib.hid (HP3.out.alloc (.cells #[.int .i64 k, .int .i64 s] 62))
            have HZA := Lib.hid (blk_alloc HZ3.out (.cells #[.int .i64 k, .int .i64 s] 62))
            have HSL : Hid (Sl tBal (w3.alloc (.cells #[.int .i64 k, .int .i64 s] 62)) (fun kk => some kk ≠ vo.ownBlock ∧ kk < (w3.alloc (.cells #[.int .i64 k, .int .i64 s] 62)).heap.size) (some ⟨w3.heap.size, 0, none⟩) [(k, s)]) :=
              Lib.hid (sl_one2 tBal (x := (k, s)) rfl (blk_new w3 _) ⟨fun e => by have := (HO3.out.lt _ e.symm).2; omega, by simp⟩ (bal_mk (k, s) G0.out HSW.out))
            have h63 : XL.length + [((k, s) : Int × Int)].length ≤ maxLen := by simp only [List.length_cons, List.length_nil]; unfold maxLen; omega
            have hby : (XL.length + [((k, s) : Int × Int)].length) * 16 ≤ 140737488355328 := by simp only [List.length_cons, List.length_nil]; omega
            have h63' : XA.length + [s].length ≤ maxLen := by simp only [List.length_cons, List.length_nil]; unfold maxLen; omega
            have hby' : (XA.length + [s].length) * 8 ≤ 140737488355328 := by simp only [List.length_cons, List.length_nil]; omega
            have HH1 := Lib.hid (And.intro h63 hby)
            have HH2 := Lib.hid (And.intro h63' hby')
            clear hs0 h63 hby h63' hby' hnl hna
            go_wp2_with (first
              | (at_builtin; have hoa := HOA.out; refine wp_app (T := tBal) rfl _ _ 49 rfl j0 (.agg #[.int .i64 0, .int .i64 0]) 16 Tryz.underlying49 hj hy0 hy1 hy2 rfl (by decide) bal_one w.heap.size vo XL rfl hoa ⟨w3.heap.size, 0, none⟩ 1 [(k, s)] rfl HSL.out HH1.out.1 HH1.out.2 HBA.out.size ?_; intro v8 w8 hown hg hnil hat; have HO8 := Lib.hid hown; have HB8 := Lib.hid (Below.grown HBA.out hg HBA.out.size (fun k e => (HOA.out.lt k e).1)); have HP8 := Lib.hid (HPA.out.far (fun _ _ _ _ _ _ h => h) hg HAP.out.symm); have HZ8 := Lib.hid ((hg.block w.heap.size (blk_lt HZA.out) (HOA.out.ne HZA.out (by decide))).trans HZA.out); have HAP8 := Lib.hid (HAP.out.symm.stepF HPA.out hat); have HP9 := Lib.hid (HP8.out.alloc (.cells #[.int .i64 s] 3)); have HO9 := Lib.hid (HO8.out.alloc (.cells #[.int .i64 s] 3)); have HB9 := Lib.hid (HB8.out.alloc HB8.out.size (.cells #[.int .i64 s] 3)); have HZ9 := Lib.hid (blk_alloc HZ8.out (.cells #[.int .i64 s] 3)); have HSL9 : Hid (Sl tInt (w8.alloc (.cells #[.int .i64 s] 3)) (fun kk => some kk ≠ va.ownBlock ∧ kk < (w8.alloc (.cells #[.int .i64 s] 3)).heap.size) (some ⟨w8.heap.size, 0, none⟩) [s]) := Lib.hid (sl_oneI (blk_new w8 _) ⟨fun e => by have := (HP8.out.lt _ e.symm).2; omega, by simp⟩ HSW.out); clear hown hg hnil hat HOA hoa HSL)
              | (at_builtin; have hp9 := HP9.out; refine wp_app (T := tInt) rfl _ _ 94 rfl i0 (.int .i64 0) 8 Tryz.underlying94 hi hz0 hz1 hz2 rfl (by decide) int_one w.heap.size va XA rfl hp9 ⟨w8.heap.size, 0, none⟩ 1 [s] rfl HSL9.out HH2.out.1 HH2.out.2 HB9.out.size ?_; intro v10 w10 hown hg hnil hat; have HP10 := Lib.hid hown; have HB10 := Lib.hid (Below.grown HB9.out hg HB9.out.size (fun k e => (hp9.lt k e).1)); have HO10 := Lib.hid (HO9.out.far bal_Free hg HAP8.out.symm); have HZ10 := Lib.hid ((hg.block w.heap.size (blk_lt HZ9.out) (hp9.ne HZ9.out (by decide))).trans HZ9.out); have HAP10 := Lib.hid (HAP8.out.symm.stepF HO9.out hat); clear hown hg hnil hat hp9 HP9))
            go_roundw
            case rel => exact ⟨n + 1, _, _, rfl, rfl, by omega, by go_num, by rw [HN1.out]; exact HO10.out, by rw [HAS.out]; exact HP10.out, HAP10.out, HB10.out, HZ10.out, HB1'⟩
            case measure => simp [intOf]; omega
          · have hs1 : (s != 0) = false := by simpa using hs0
            have hsz : s = 0 := by simpa using hs0
            have HN1 : Hid (trnL r m (l.take (n + 1)) = XL) := Lib.hid (by rw [HLS.out]; simp [hsz])
            subst hsz
            have HPA := Lib.hid (HP3.out.alloc (.cells #[.int .i64 0] 3))
            have HOA := Lib.hid (HO3.out.alloc (.cells #[.int .i64 0] 3))
            have HBA := Lib.hid (HB3.out.alloc HB3.out.size (.cells #[.int .i64 0] 3))
            have HZA := Lib.hid (blk_alloc HZ3.out (.cells #[.int .i64 0] 3))
            have HSL9 : Hid (Sl tInt (w3.alloc (.cells #[.int .i64 0] 3)) (fun kk => some kk ≠ va.ownBlock ∧ kk < (w3.alloc (.cells #[.int .i64 0] 3)).heap.size) (some ⟨w3.heap.size, 0, none⟩) [0]) := Lib.hid (sl_oneI (blk_new w3 _) ⟨fun e => by have := (HP3.out.lt _ e.symm).2; omega, by simp⟩ (by decide))
            have h63' : XA.length + [(0 : Int)].length ≤ maxLen := by simp only [List.length_cons, List.length_nil]; unfold maxLen; omega
            have hby' : (XA.length + [(0 : Int)].length) * 8 ≤ 140737488355328 := by simp only [List.length_cons, List.length_nil]; omega
            have HH2 := Lib.hid (And.intro h63' hby')
            clear hs0 h63' hby' hnl hna
            go_wp2_with (at_builtin; refine wp_app (T := tInt) rfl _ _ 94 rfl i0 (.int .i64 0) 8 Tryz.underlying94 hi hz0 hz1 hz2 rfl (by decide) int_one w.heap.size va XA rfl HPA.out ⟨w3.heap.size, 0, none⟩ 1 [(0 : Int)] rfl HSL9.out HH2.out.1 HH2.out.2 HBA.out.size ?_; intro v10 w10 hown hg hnil hat; have HP10 := Lib.hid hown; have HB10 := Lib.hid (Below.grown HBA.out hg HBA.out.size (fun k e => (HPA.out.lt k e).1)); have HO10 := Lib.hid (HOA.out.far bal_Free hg HAP.out); have HZ10 := Lib.hid ((hg.block w.heap.size (blk_lt HZA.out) (HPA.out.ne HZA.out (by decide))).trans HZA.out); have HAP10 := Lib.hid (HAP.out.stepF HOA.out hat); clear hown hg hnil hat)
            go_roundw
            case rel => exact ⟨n + 1, _, _, rfl, rfl, by omega, by go_num, by rw [HN1.out]; exact HO10.out, by rw [HAS.out]; exact HP10.out, HAP10.out, HB10.out, HZ10.out, HB1'⟩
            case measure => simp [intOf]; omega
        · have HTT : Hid (T = (([], 0), 2)) := Lib.hid (by rw [← HT.out]; unfold trnT; rw [HBN.out (by decide)]; rfl)
          go_wp2_with fail
          go_ret3
          rw [HTT.out]
          exact ⟨_, rfl, OwnL.nil _ _, HB3.out⟩
      · have HRT : Hid (rateK m kk = y ∧ 1 ≤ y ∧ y ≤ 1000000000) := Lib.hid ⟨by rw [HRK2.out, h5]; rfl, y1, y2⟩
        have g4 : (kk == 4) = false := by simpa using h4
        have g5 : (kk == 5) = true := by simpa using h5
        clear h4 h5
        have HSC := Lib.hid (fun V => rscale_any (a := v) (n := y) (d := 1000000) V HFI.out (by have := HRT.out; omega) HRT.out.2.2 (by decide) (by decide))
        simp only [HRT.out.1] at HLS HAS HBS HBN
        have herr := scaleT_err v y 1000000
        have hfit := scaleT_fit (a := v) (n := y) (d := 1000000)
        obtain ⟨⟨s, er⟩, hs⟩ : ∃ t, scaleT v y 1000000 = t := ⟨_, rfl⟩
        rw [hs] at herr hfit HSC HLS HAS HBS HBN
        simp only at herr hfit HLS HAS HBS HBN
        have HFT := Lib.hid hfit
        clear hfit hs
        go_wp2_with fail
        refine (HSC.out _).mono ?_
        rintro en w3 ⟨rfl, hb⟩
        have HB3 := Lib.hid (belows_then HB2.out HB2.out.size hb)
        have HZ3 := Lib.hid (blk_below HZ2.out hb)
        have HO3 := Lib.hid (HO2.out.below hb)
        have HP3 := Lib.hid (HP2.out.below hb)
        have had3 : w3.cell? (ad.add (n * 2)) = some (.int .i64 k) := (World.cell?_of_block (w := w2) (by rw [add_block]; exact hb.block _ hadl2)).trans had0
        have hadl3 : ad.block < w3.heap.size := Nat.lt_of_lt_of_le hadl2 hb.size
        clear hb HSC had0 had1 hadl2 hcr2 hlr2 HB2 HZ2 HO2 HP2
        rcases herr with rfl | rfl
        · have HB1' : Hid (trnB r m (l.take (n + 1)) = true) := Lib.hid (by rw [HBS.out, hok.out]; rfl)
          have hsb : -1000000000000000 ≤ s ∧ s ≤ 1000000000000000 := by simpa [fitsB] using HFT.out
          have HSW : Hid (I64 s) := Lib.hid (by unfold I64 Lit.wf; simp [IntKind.min, IntKind.max, IntKind.bits, IntKind.signed]; omega)
          obtain ⟨XL, hXL⟩ : ∃ X, trnL r m (l.take n) = X := ⟨_, rfl⟩
          obtain ⟨XA, hXA⟩ : ∃ X, trnA r m (l.take n) = X := ⟨_, rfl⟩
          have hnl := hnum
          have hna := hnumA
          rw [hXL] at HLS HO3 hnl
          rw [hXA] at HAS HP3 hna
          clear hXL hXA
          cases hs0 : s == 0
          · have hs1 : (s != 0) = true := by simpa using hs0
            have hsz : s ≠ 0 := by simpa using hs0
            have HN1 : Hid (trnL r m (l.take (n + 1)) = XL ++ [(k, s)]) := Lib.hid (by rw [HLS.out]; simp [hsz])
            have HOA := Lib.hid (HO3.out.alloc (.cells #[.int .i64 k, .int .i64 s] 62))
            have HBA := Lib.hid (HB3.out.alloc HB3.out.size (.cells #[.int .i64 k, .int .i64 s] 62))
            have HPA := Lib.hid (HP3.out.alloc (.cells #[.int .i64 k, .int .i64 s] 62))
            have HZA := Lib.hid (blk_alloc HZ3.out (.cells #[.int .i64 k, .int .i64 s] 62))
            have HSL : Hid (Sl tBal (w3.alloc (.cells #[.int .i64 k, .int .i64 s] 62)) (fun kk => some kk ≠ vo.ownBlock ∧ kk < (w3.alloc (.cells #[.int .i64 k, .int .i64 s] 62)).heap.size) (some ⟨w3.heap.size, 0, none⟩) [(k, s)]) :=
              Lib.hid (sl_one2 tBal (x := (k, s)) rfl (blk_new w3 _) ⟨fun e => by have := (HO3.out.lt _ e.symm).2; omega, by simp⟩ (bal_mk (k, s) G0.out HSW.out))
            have h63 : XL.length + [((k, s) : Int × Int)].length ≤ maxLen := by simp only [List.length_cons, List.length_nil]; unfold maxLen; omega
            have hby : (XL.length + [((k, s) : Int × Int)].length) * 16 ≤ 140737488355328 := by simp only [List.length_cons, List.length_nil]; omega
            have h63' : XA.length + [s].length ≤ maxLen := by simp only [List.length_cons, List.length_nil]; unfold maxLen; omega
            have hby' : (XA.length + [s].length) * 8 ≤ 140737488355328 := by simp only [List.length_cons, List.length_nil]; omega
            have HH1 := Lib.hid (And.intro h63 hby)
            have HH2 := Lib.hid (And.intro h63' hby')
            clear hs0 h63 hby h63' hby' hnl hna
            go_wp2_with (first
              | (at_builtin; have hoa := HOA.out; refine wp_app (T := tBal) rfl _ _ 49 rfl j0 (.agg #[.int .i64 0, .int .i64 0]) 16 Tryz.underlying49 hj hy0 hy1 hy2 rfl (by decide) bal_one w.heap.size vo XL rfl hoa ⟨w3.heap.size, 0, none⟩ 1 [(k, s)] rfl HSL.out HH1.out.1 HH1.out.2 HBA.out.size ?_; intro v8 w8 hown hg hnil hat; have HO8 := Lib.hid hown; have HB8 := Lib.hid (Below.grown HBA.out hg HBA.out.size (fun k e => (HOA.out.lt k e).1)); have HP8 := Lib.hid (HPA.out.far (fun _ _ _ _ _ _ h => h) hg HAP.out.symm); have HZ8 := Lib.hid ((hg.block w.heap.size (blk_lt HZA.out) (HOA.out.ne HZA.out (by decide))).trans HZA.out); have HAP8 := Lib.hid (HAP.out.symm.stepF HPA.out hat); have HP9 := Lib.hid (HP8.out.alloc (.cells #[.int .i64 s] 3)); have HO9 := Lib.hid (HO8.out.alloc (.cells #[.int .i64 s] 3)); have HB9 := Lib.hid (HB8.out.alloc HB8.out.size (.cells #[.int .i64 s] 3)); have HZ9 := Lib.hid (blk_alloc HZ8.out (.cells #[.int .i64 s] 3)); have HSL9 : Hid (Sl tInt (w8.alloc (.cells #[.int .i64 s] 3)) (fun kk => some kk ≠ va.ownBlock ∧ kk < (w8.alloc (.cells #[.int .i64 s] 3)).heap.size) (some ⟨w8.heap.size, 0, none⟩) [s]) := Lib.hid (sl_oneI (blk_new w8 _) ⟨fun e => by have := (HP8.out.lt _ e.symm).2; omega, by simp⟩ HSW.out); clear hown hg hnil hat HOA hoa HSL)
              | (at_builtin; have hp9 := HP9.out; refine wp_app (T := tInt) rfl _ _ 94 rfl i0 (.int .i64 0) 8 Tryz.underlying94 hi hz0 hz1 hz2 rfl (by decide) int_one w.heap.size va XA rfl hp9 ⟨w8.heap.size, 0, none⟩ 1 [s] rfl HSL9.out HH2.out.1 HH2.out.2 HB9.out.size ?_; intro v10 w10 hown hg hnil hat; have HP10 := Lib.hid hown; have HB10 := Lib.hid (Below.grown HB9.out hg HB9.out.size (fun k e => (hp9.lt k e).1)); have HO10 := Lib.hid (HO9.out.far bal_Free hg HAP8.out.symm); have HZ10 := Lib.hid ((hg.block w.heap.size (blk_lt HZ9.out) (hp9.ne HZ9.out (by decide))).trans HZ9.out); have HAP10 := Lib.hid (HAP8.out.symm.stepF HO9.out hat); clear hown hg hnil hat hp9 HP9))
            go_roundw
            case rel => exact ⟨n + 1, _, _, rfl, rfl, by omega, by go_num, by rw [HN1.out]; exact HO10.out, by rw [HAS.out]; exact HP10.out, HAP10.out, HB10.out, HZ10.out, HB1'⟩
            case measure => simp [intOf]; omega
          · have hs1 : (s != 0) = false := by simpa using hs0
            have hsz : s = 0 := by simpa using hs0
            have HN1 : Hid (trnL r m (l.take (n + 1)) = XL) := Lib.hid (by rw [HLS.out]; simp [hsz])
            subst hsz
            have HPA := Lib.hid (HP3.out.alloc (.cells #[.int .i64 0] 3))
            have HOA := Lib.hid (HO3.out.alloc (.cells #[.int .i64 0] 3))
            have HBA := Lib.hid (HB3.out.alloc HB3.out.size (.cells #[.int .i64 0] 3))
            have HZA := Lib.hid (blk_alloc HZ3.out (.cells #[.int .i64 0] 3))
            have HSL9 : Hid (Sl tInt (w3.alloc (.cells #[.int .i64 0] 3)) (fun kk => some kk ≠ va.ownBlock ∧ kk < (w3.alloc (.cells #[.int .i64 0] 3)).heap.size) (some ⟨w3.heap.size, 0, none⟩) [0]) := Lib.hid (sl_oneI (blk_new w3 _) ⟨fun e => by have := (HP3.out.lt _ e.symm).2; omega, by simp⟩ (by decide))
            have h63' : XA.length + [(0 : Int)].length ≤ maxLen := by simp only [List.length_cons, List.length_nil]; unfold maxLen; omega
            have hby' : (XA.length + [(0 : Int)].length) * 8 ≤ 140737488355328 := by simp only [List.length_cons, List.length_nil]; omega
            have HH2 := Lib.hid (And.intro h63' hby')
            clear hs0 h63' hby' hnl hna
            go_wp2_with (at_builtin; refine wp_app (T := tInt) rfl _ _ 94 rfl i0 (.int .i64 0) 8 Tryz.underlying94 hi hz0 hz1 hz2 rfl (by decide) int_one w.heap.size va XA rfl HPA.out ⟨w3.heap.size, 0, none⟩ 1 [(0 : Int)] rfl HSL9.out HH2.out.1 HH2.out.2 HBA.out.size ?_; intro v10 w10 hown hg hnil hat; have HP10 := Lib.hid hown; have HB10 := Lib.hid (Below.grown HBA.out hg HBA.out.size (fun k e => (HPA.out.lt k e).1)); have HO10 := Lib.hid (HOA.out.far bal_Free hg HAP.out); have HZ10 := Lib.hid ((hg.block w.heap.size (blk_lt HZA.out) (HPA.out.ne HZA.out (by decide))).trans HZA.out); have HAP10 := Lib.hid (HAP.out.stepF HOA.out hat); clear hown hg hnil hat)
            go_roundw
            case rel => exact ⟨n + 1, _, _, rfl, rfl, by omega, by go_num, by rw [HN1.out]; exact HO10.out, by rw [HAS.out]; exact HP10.out, HAP10.out, HB10.out, HZ10.out, HB1'⟩
            case measure => simp [intOf]; omega
        · have HTT : Hid (T = (([], 0), 2)) := Lib.hid (by rw [← HT.out]; unfold trnT; rw [HBN.out (by decide)]; rfl)
          go_wp2_with fail
          go_ret3
          rw [HTT.out]
          exact ⟨_, rfl, OwnL.nil _ _, HB3.out⟩
      · have HRT : Hid (rateK m kk = z ∧ 1 ≤ z ∧ z ≤ 1000000000) := Lib.hid ⟨by rw [HRK2.out, h3]; rfl, z1, z2⟩
        have g4 : (kk == 4) = false := by simpa using h4
        have g5 : (kk == 5) = false := by simpa using h5
        have g3 : (kk == 3) = true := by simpa using h3
        clear h4 h5 h3
        have HSC := Lib.hid (fun V => rscale_any (a := v) (n := z) (d := 1000000) V HFI.out (by have := HRT.out; omega) HRT.out.2.2 (by decide) (by decide))
        simp only [HRT.out.1] at HLS HAS HBS HBN
        have herr := scaleT_err v z 1000000
        have hfit := scaleT_fit (a := v) (n := z) (d := 1000000)
        obtain ⟨⟨s, er⟩, hs⟩ : ∃ t, scaleT v z 1000000 = t := ⟨_, rfl⟩
        rw [hs] at herr hfit HSC HLS HAS HBS HBN
        simp only at herr hfit HLS HAS HBS HBN
        have HFT := Lib.hid hfit
        clear hfit hs
        go_wp2_with fail
        refine (HSC.out _).mono ?_
        rintro en w3 ⟨rfl, hb⟩
        have HB3 := Lib.hid (belows_then HB2.out HB2.out.size hb)
        have HZ3 := Lib.hid (blk_below HZ2.out hb)
        have HO3 := Lib.hid (HO2.out.below hb)
        have HP3 := Lib.hid (HP2.out.below hb)
        have had3 : w3.cell? (ad.add (n * 2)) = some (.int .i64 k) := (World.cell?_of_block (w := w2) (by rw [add_block]; exact hb.block _ hadl2)).trans had0
        have hadl3 : ad.block < w3.heap.size := Nat.lt_of_lt_of_le hadl2 hb.size
        clear hb HSC had0 had1 hadl2 hcr2 hlr2 HB2 HZ2 HO2 HP2
        rcases herr with rfl | rfl
        · have HB1' : Hid (trnB r m (l.take (n + 1)) = true) := Lib.hid (by rw [HBS.out, hok.out]; rfl)
          have hsb : -1000000000000000 ≤ s ∧ s ≤ 1000000000000000 := by simpa [fitsB] using HFT.out
          have HSW : Hid (I64 s) := Lib.hid (by unfold I64 Lit.wf; simp [IntKind.min, IntKind.max, IntKind.bits, IntKind.signed]; omega)
          obtain ⟨XL, hXL⟩ : ∃ X, trnL r m (l.take n) = X := ⟨_, rfl⟩
          obtain ⟨XA, hXA⟩ : ∃ X, trnA r m (l.take n) = X := ⟨_, rfl⟩
          have hnl := hnum
          have hna := hnumA
          rw [hXL] at HLS HO3 hnl
          rw [hXA] at HAS HP3 hna
          clear hXL hXA
          cases hs0 : s == 0
          · have hs1 : (s != 0) = true := by simpa using hs0
            have hsz : s ≠ 0 := by simpa using hs0
            have HN1 : Hid (trnL r m (l.take (n + 1)) = XL ++ [(k, s)]) := Lib.hid (by rw [HLS.out]; simp [hsz])
            have HOA := Lib.hid (HO3.out.alloc (.cells #[.int .i64 k, .int .i64 s] 62))
            have HBA := Lib.hid (HB3.out.alloc HB3.out.size (.cells #[.int .i64 k, .int .i64 s] 62))
            have HPA := Lib.hid (HP3.out.alloc (.cells #[.int .i64 k, .int .i64 s] 62))
            have HZA := Lib.hid (blk_alloc HZ3.out (.cells #[.int .i64 k, .int .i64 s] 62))
            have HSL : Hid (Sl tBal (w3.alloc (.cells #[.int .i64 k, .int .i64 s] 62)) (fun kk => some kk ≠ vo.ownBlock ∧ kk < (w3.alloc (.cells #[.int .i64 k, .int .i64 s] 62)).heap.size) (some ⟨w3.heap.size, 0, none⟩) [(k, s)]) :=
              Lib.hid (sl_one2 tBal (x := (k, s)) rfl (blk_new w3 _) ⟨fun e => by have := (HO3.out.lt _ e.symm).2; omega, by simp⟩ (bal_mk (k, s) G0.out HSW.out))
            have h63 : XL.length + [((k, s) : Int × Int)].length ≤ maxLen := by simp only [List.length_cons, List.length_nil]; unfold maxLen; omega
            have hby : (XL.length + [((k, s) : Int × Int)].length) * 16 ≤ 140737488355328 := by simp only [List.length_cons, List.length_nil]; omega
            have h63' : XA.length + [s].length ≤ maxLen := by simp only [List.length_cons, List.length_nil]; unfold maxLen; omega
            have hby' : (XA.length + [s].length) * 8 ≤ 140737488355328 := by simp only [List.length_cons, List.length_nil]; omega
            have HH1 := Lib.hid (And.intro h63 hby)
            have HH2 := Lib.hid (And.intro h63' hby')
            clear hs0 h63 hby h63' hby' hnl hna
            go_wp2_with (first
              | (at_builtin; have hoa := HOA.out; refine wp_app (T := tBal) rfl _ _ 49 rfl j0 (.agg #[.int .i64 0, .int .i64 0]) 16 Tryz.underlying49 hj hy0 hy1 hy2 rfl (by decide) bal_one w.heap.size vo XL rfl hoa ⟨w3.heap.size, 0, none⟩ 1 [(k, s)] rfl HSL.out HH1.out.1 HH1.out.2 HBA.out.size ?_; intro v8 w8 hown hg hnil hat; have HO8 := Lib.hid hown; have HB8 := Lib.hid (Below.grown HBA.out hg HBA.out.size (fun k e => (HOA.out.lt k e).1)); have HP8 := Lib.hid (HPA.out.far (fun _ _ _ _ _ _ h => h) hg HAP.out.symm); have HZ8 := Lib.hid ((hg.block w.heap.size (blk_lt HZA.out) (HOA.out.ne HZA.out (by decide))).trans HZA.out); have HAP8 := Lib.hid (HAP.out.symm.stepF HPA.out hat); have HP9 := Lib.hid (HP8.out.alloc (.cells #[.int .i64 s] 3)); have HO9 := Lib.hid (HO8.out.alloc (.cells #[.int .i64 s] 3)); have HB9 := Lib.hid (HB8.out.alloc HB8.out.size (.cells #[.int .i64 s] 3)); have HZ9 := Lib.hid (blk_alloc HZ8.out (.cells #[.int .i64 s] 3)); have HSL9 : Hid (Sl tInt (w8.alloc (.cells #[.int .i64 s] 3)) (fun kk => some kk ≠ va.ownBlock ∧ kk < (w8.alloc (.cells #[.int .i64 s] 3)).heap.size) (some ⟨w8.heap.size, 0, none⟩) [s]) := Lib.hid (sl_oneI (blk_new w8 _) ⟨fun e => by have := (HP8.out.lt _ e.symm).2; omega, by simp⟩ HSW.out); clear hown hg hnil hat HOA hoa HSL)
              | (at_builtin; have hp9 := HP9.out; refine wp_app (T := tInt) rfl _ _ 94 rfl i0 (.int .i64 0) 8 Tryz.underlying94 hi hz0 hz1 hz2 rfl (by decide) int_one w.heap.size va XA rfl hp9 ⟨w8.heap.size, 0, none⟩ 1 [s] rfl HSL9.out HH2.out.1 HH2.out.2 HB9.out.size ?_; intro v10 w10 hown hg hnil hat; have HP10 := Lib.hid hown; have HB10 := Lib.hid (Below.grown HB9.out hg HB9.out.size (fun k e => (hp9.lt k e).1)); have HO10 := Lib.hid (HO9.out.far bal_Free hg HAP8.out.symm); have HZ10 := Lib.hid ((hg.block w.heap.size (blk_lt HZ9.out) (hp9.ne HZ9.out (by decide))).trans HZ9.out); have HAP10 := Lib.hid (HAP8.out.symm.stepF HO9.out hat); clear hown hg hnil hat hp9 HP9))
            go_roundw
            case rel => exact ⟨n + 1, _, _, rfl, rfl, by omega, by go_num, by rw [HN1.out]; exact HO10.out, by rw [HAS.out]; exact HP10.out, HAP10.out, HB10.out, HZ10.out, HB1'⟩
            case measure => simp [intOf]; omega
          · have hs1 : (s != 0) = false := by simpa using hs0
            have hsz : s = 0 := by simpa using hs0
            have HN1 : Hid (trnL r m (l.take (n + 1)) = XL) := Lib.hid (by rw [HLS.out]; simp [hsz])
            subst hsz
            have HPA := Lib.hid (HP3.out.alloc (.cells #[.int .i64 0] 3))
            have HOA := Lib.hid (HO3.out.alloc (.cells #[.int .i64 0] 3))
            have HBA := Lib.hid (HB3.out.alloc HB3.out.size (.cells #[.int .i64 0] 3))
            have HZA := Lib.hid (blk_alloc HZ3.out (.cells #[.int .i64 0] 3))
            have HSL9 : Hid (Sl tInt (w3.alloc (.cells #[.int .i64 0] 3)) (fun kk => some kk ≠ va.ownBlock ∧ kk < (w3.alloc (.cells #[.int .i64 0] 3)).heap.size) (some ⟨w3.heap.size, 0, none⟩) [0]) := Lib.hid (sl_oneI (blk_new w3 _) ⟨fun e => by have := (HP3.out.lt _ e.symm).2; omega, by simp⟩ (by decide))
            have h63' : XA.length + [(0 : Int)].length ≤ maxLen := by simp only [List.length_cons, List.length_nil]; unfold maxLen; omega
            have hby' : (XA.length + [(0 : Int)].length) * 8 ≤ 140737488355328 := by simp only [List.length_cons, List.length_nil]; omega
            have HH2 := Lib.hid (And.intro h63' hby')
            clear hs0 h63' hby' hnl hna
            go_wp2_with (at_builtin; refine wp_app (T := tInt) rfl _ _ 94 rfl i0 (.int .i64 0) 8 Tryz.underlying94 hi hz0 hz1 hz2 rfl (by decide) int_one w.heap.size va XA rfl HPA.out ⟨w3.heap.size, 0, none⟩ 1 [(0 : Int)] rfl HSL9.out HH2.out.1 HH2.out.2 HBA.out.size ?_; intro v10 w10 hown hg hnil hat; have HP10 := Lib.hid hown; have HB10 := Lib.hid (Below.grown HBA.out hg HBA.out.size (fun k e => (HPA.out.lt k e).1)); have HO10 := Lib.hid (HOA.out.far bal_Free hg HAP.out); have HZ10 := Lib.hid ((hg.block w.heap.size (blk_lt HZA.out) (HPA.out.ne HZA.out (by decide))).trans HZA.out); have HAP10 := Lib.hid (HAP.out.stepF HOA.out hat); clear hown hg hnil hat)
            go_roundw
            case rel => exact ⟨n + 1, _, _, rfl, rfl, by omega, by go_num, by rw [HN1.out]; exact HO10.out, by rw [HAS.out]; exact HP10.out, HAP10.out, HB10.out, HZ10.out, HB1'⟩
            case measure => simp [intOf]; omega
        · have HTT : Hid (T = (([], 0), 2)) := Lib.hid (by rw [← HT.out]; unfold trnT; rw [HBN.out (by decide)]; rfl)
          go_wp2_with fail
          go_ret3
          rw [HTT.out]
          exact ⟨_, rfl, OwnL.nil _ _, HB3.out⟩
      · have g4 : (kk == 4) = false := by simpa using h4
        have g5 : (kk == 5) = false := by simpa using h5
        have g3 : (kk == 3) = false := by simpa using h3
        have HRT : Hid (rateK m kk = x ∧ 1 ≤ x ∧ x ≤ 1000000000) := Lib.hid ⟨by rw [HRK2.out, g4, g5, g3]; rfl, x1, x2⟩
        clear h4 h5 h3
        have HSC := Lib.hid (fun V => rscale_any (a := v) (n := x) (d := 1000000) V HFI.out (by have := HRT.out; omega) HRT.out.2.2 (by decide) (by decide))
        simp only [HRT.out.1] at HLS HAS HBS HBN
        have herr := scaleT_err v x 1000000
        have hfit := scaleT_fit (a := v) (n := x) (d := 1000000)
        obtain ⟨⟨s, er⟩, hs⟩ : ∃ t, scaleT v x 1000000 = t := ⟨_, rfl⟩
        rw [hs] at herr hfit HSC HLS HAS HBS HBN
        simp only at herr hfit HLS HAS HBS HBN
        have HFT := Lib.hid hfit
        clear hfit hs
        go_wp2_with fail
        refine (HSC.out _).mono ?_
        rintro en w3 ⟨rfl, hb⟩
        have HB3 := Lib.hid (belows_then HB2.out HB2.out.size hb)
        have HZ3 := Lib.hid (blk_below HZ2.out hb)
        have HO3 := Lib.hid (HO2.out.below hb)
        have HP3 := Lib.hid (HP2.out.below hb)
        have had3 : w3.cell? (ad.add (n * 2)) = some (.int .i64 k) := (World.cell?_of_block (w := w2) (by rw [add_block]; exact hb.block _ hadl2)).trans had0
        have hadl3 : ad.block < w3.heap.size := Nat.lt_of_lt_of_le hadl2 hb.size
        clear hb HSC had0 had1 hadl2 hcr2 hlr2 HB2 HZ2 HO2 HP2
        rcases herr with rfl | rfl
        · have HB1' : Hid (trnB r m (l.take (n + 1)) = true) := Lib.hid (by rw [HBS.out, hok.out]; rfl)
          have hsb : -1000000000000000 ≤ s ∧ s ≤ 1000000000000000 := by simpa [fitsB] using HFT.out
          have HSW : Hid (I64 s) := Lib.hid (by unfold I64 Lit.wf; simp [IntKind.min, IntKind.max, IntKind.bits, IntKind.signed]; omega)
          obtain ⟨XL, hXL⟩ : ∃ X, trnL r m (l.take n) = X := ⟨_, rfl⟩
          obtain ⟨XA, hXA⟩ : ∃ X, trnA r m (l.take n) = X := ⟨_, rfl⟩
          have hnl := hnum
          have hna := hnumA
          rw [hXL] at HLS HO3 hnl
          rw [hXA] at HAS HP3 hna
          clear hXL hXA
          cases hs0 : s == 0
          · have hs1 : (s != 0) = true := by simpa using hs0
            have hsz : s ≠ 0 := by simpa using hs0
            have HN1 : Hid (trnL r m (l.take (n + 1)) = XL ++ [(k, s)]) := Lib.hid (by rw [HLS.out]; simp [hsz])
            have HOA := Lib.hid (HO3.out.alloc (.cells #[.int .i64 k, .int .i64 s] 62))
            have HBA := Lib.hid (HB3.out.alloc HB3.out.size (.cells #[.int .i64 k, .int .i64 s] 62))
            have HPA := Lib.hid (HP3.out.alloc (.cells #[.int .i64 k, .int .i64 s] 62))
            have HZA := Lib.hid (blk_alloc HZ3.out (.cells #[.int .i64 k, .int .i64 s] 62))
            have HSL : Hid (Sl tBal (w3.alloc (.cells #[.int .i64 k, .int .i64 s] 62)) (fun kk => some kk ≠ vo.ownBlock ∧ kk < (w3.alloc (.cells #[.int .i64 k, .int .i64 s] 62)).heap.size) (some ⟨w3.heap.size, 0, none⟩) [(k, s)]) :=
              Lib.hid (sl_one2 tBal (x := (k, s)) rfl (blk_new w3 _) ⟨fun e => by have := (HO3.out.lt _ e.symm).2; omega, by simp⟩ (bal_mk (k, s) G0.out HSW.out))
            have h63 : XL.length + [((k, s) : Int × Int)].length ≤ maxLen := by simp only [List.length_cons, List.length_nil]; unfold maxLen; omega
            have hby : (XL.length + [((k, s) : Int × Int)].length) * 16 ≤ 140737488355328 := by simp only [List.length_cons, List.length_nil]; omega
            have h63' : XA.length + [s].length ≤ maxLen := by simp only [List.length_cons, List.length_nil]; unfold maxLen; omega
            have hby' : (XA.length + [s].length) * 8 ≤ 140737488355328 := by simp only [List.length_cons, List.length_nil]; omega
            have HH1 := Lib.hid (And.intro h63 hby)
            have HH2 := Lib.hid (And.intro h63' hby')
            clear hs0 h63 hby h63' hby' hnl hna
            go_wp2_with (first
              | (at_builtin; have hoa := HOA.out; refine wp_app (T := tBal) rfl _ _ 49 rfl j0 (.agg #[.int .i64 0, .int .i64 0]) 16 Tryz.underlying49 hj hy0 hy1 hy2 rfl (by decide) bal_one w.heap.size vo XL rfl hoa ⟨w3.heap.size, 0, none⟩ 1 [(k, s)] rfl HSL.out HH1.out.1 HH1.out.2 HBA.out.size ?_; intro v8 w8 hown hg hnil hat; have HO8 := Lib.hid hown; have HB8 := Lib.hid (Below.grown HBA.out hg HBA.out.size (fun k e => (HOA.out.lt k e).1)); have HP8 := Lib.hid (HPA.out.far (fun _ _ _ _ _ _ h => h) hg HAP.out.symm); have HZ8 := Lib.hid ((hg.block w.heap.size (blk_lt HZA.out) (HOA.out.ne HZA.out (by decide))).trans HZA.out); have HAP8 := Lib.hid (HAP.out.symm.stepF HPA.out hat); have HP9 := Lib.hid (HP8.out.alloc (.cells #[.int .i64 s] 3)); have HO9 := Lib.hid (HO8.out.alloc (.cells #[.int .i64 s] 3)); have HB9 := Lib.hid (HB8.out.alloc HB8.out.size (.cells #[.int .i64 s] 3)); have HZ9 := Lib.hid (blk_alloc HZ8.out (.cells #[.int .i64 s] 3)); have HSL9 : Hid (Sl tInt (w8.alloc (.cells #[.int .i64 s] 3)) (fun kk => some kk ≠ va.ownBlock ∧ kk < (w8.alloc (.cells #[.int .i64 s] 3)).heap.size) (some ⟨w8.heap.size, 0, none⟩) [s]) := Lib.hid (sl_oneI (blk_new w8 _) ⟨fun e => by have := (HP8.out.lt _ e.symm).2; omega, by simp⟩ HSW.out); clear hown hg hnil hat HOA hoa HSL)
              | (at_builtin; have hp9 := HP9.out; refine wp_app (T := tInt) rfl _ _ 94 rfl i0 (.int .i64 0) 8 Tryz.underlying94 hi hz0 hz1 hz2 rfl (by decide) int_one w.heap.size va XA rfl hp9 ⟨w8.heap.size, 0, none⟩ 1 [s] rfl HSL9.out HH2.out.1 HH2.out.2 HB9.out.size ?_; intro v10 w10 hown hg hnil hat; have HP10 := Lib.hid hown; have HB10 := Lib.hid (Below.grown HB9.out hg HB9.out.size (fun k e => (hp9.lt k e).1)); have HO10 := Lib.hid (HO9.out.far bal_Free hg HAP8.out.symm); have HZ10 := Lib.hid ((hg.block w.heap.size (blk_lt HZ9.out) (hp9.ne HZ9.out (by decide))).trans HZ9.out); have HAP10 := Lib.hid (HAP8.out.symm.stepF HO9.out hat); clear hown hg hnil hat hp9 HP9))
            go_roundw
            case rel => exact ⟨n + 1, _, _, rfl, rfl, by omega, by go_num, by rw [HN1.out]; exact HO10.out, by rw [HAS.out]; exact HP10.out, HAP10.out, HB10.out, HZ10.out, HB1'⟩
            case measure => simp [intOf]; omega
          · have hs1 : (s != 0) = false := by simpa using hs0
            have hsz : s = 0 := by simpa using hs0
            have HN1 : Hid (trnL r m (l.take (n + 1)) = XL) := Lib.hid (by rw [HLS.out]; simp [hsz])
            subst hsz
            have HPA := Lib.hid (HP3.out.alloc (.cells #[.int .i64 0] 3))
            have HOA := Lib.hid (HO3.out.alloc (.cells #[.int .i64 0] 3))
            have HBA := Lib.hid (HB3.out.alloc HB3.out.size (.cells #[.int .i64 0] 3))
            have HZA := Lib.hid (blk_alloc HZ3.out (.cells #[.int .i64 0] 3))
            have HSL9 : Hid (Sl tInt (w3.alloc (.cells #[.int .i64 0] 3)) (fun kk => some kk ≠ va.ownBlock ∧ kk < (w3.alloc (.cells #[.int .i64 0] 3)).heap.size) (some ⟨w3.heap.size, 0, none⟩) [0]) := Lib.hid (sl_oneI (blk_new w3 _) ⟨fun e => by have := (HP3.out.lt _ e.symm).2; omega, by simp⟩ (by decide))
            have h63' : XA.length + [(0 : Int)].length ≤ maxLen := by simp only [List.length_cons, List.length_nil]; unfold maxLen; omega
            have hby' : (XA.length + [(0 : Int)].length) * 8 ≤ 140737488355328 := by simp only [List.length_cons, List.length_nil]; omega
            have HH2 := Lib.hid (And.intro h63' hby')
            clear hs0 h63' hby' hnl hna
            go_wp2_with (at_builtin; refine wp_app (T := tInt) rfl _ _ 94 rfl i0 (.int .i64 0) 8 Tryz.underlying94 hi hz0 hz1 hz2 rfl (by decide) int_one w.heap.size va XA rfl HPA.out ⟨w3.heap.size, 0, none⟩ 1 [(0 : Int)] rfl HSL9.out HH2.out.1 HH2.out.2 HBA.out.size ?_; intro v10 w10 hown hg hnil hat; have HP10 := Lib.hid hown; have HB10 := Lib.hid (Below.grown HBA.out hg HBA.out.size (fun k e => (HPA.out.lt k e).1)); have HO10 := Lib.hid (HOA.out.far bal_Free hg HAP.out); have HZ10 := Lib.hid ((hg.block w.heap.size (blk_lt HZA.out) (HPA.out.ne HZA.out (by decide))).trans HZA.out); have HAP10 := Lib.hid (HAP.out.stepF HOA.out hat); clear hown hg hnil hat)
            go_roundw
            case rel => exact ⟨n + 1, _, _, rfl, rfl, by omega, by go_num, by rw [HN1.out]; exact HO10.out, by rw [HAS.out]; exact HP10.out, HAP10.out, HB10.out, HZ10.out, HB1'⟩
            case measure => simp [intOf]; omega
        · have HTT : Hid (T = (([], 0), 2)) := Lib.hid (by rw [← HT.out]; unfold trnT; rw [HBN.out (by decide)]; rfl)
          go_wp2_with fail
          go_ret3
          rw [HTT.out]
          exact ⟨_, rfl, OwnL.nil _ _, HB3.out⟩
    · have HL : Hid (l.take n = l) := Lib.hid (take_all hn hlt)
      have HOK := Lib.hid hok.out
      rw [HL.out] at HOK
      have ho := HO.out
      have hp := HP.out
      rw [HL.out] at ho hp
      obtain ⟨X, hX⟩ : ∃ X, trnA r m l = X := ⟨_, rfl⟩
      have hxl : X.length ≤ 8000 := by rw [← hX]; unfold trnA; rw [List.length_map]; omega
      obtain ⟨⟨sm, er⟩, hA⟩ : ∃ t, addM X = t := ⟨_, rfl⟩
      have hA2 : addM ((trnL r m l).map (·.2)) = (sm, er) := by rw [← trnA_add, hX]; exact hA
      rw [hX] at hp
      obtain ⟨pa, pc, rfl, -, -, hps⟩ := hp.slice
      have HPS := Lib.hid hps
      have HA := Lib.hid hA
      have HA2 := Lib.hid hA2
      have HOW := Lib.hid ho
      have herr := addM_err X
      have hfit := addM_fit X
      rw [hA] at herr hfit
      simp only at herr
      clear hX hA hA2 ho hp hps HO HP
      go_wp2_with fail
      have HRA := Lib.hid (radd_any X pa pc wr HPS.out hxl)
      rw [HA.out] at HRA
      refine HRA.out.mono ?_
      rintro en w4 ⟨rfl, rfl⟩
      rcases herr with rfl | rfl
      · have hsb : -1000000000000000 ≤ sm ∧ sm ≤ 1000000000000000 := by simpa [fitsB] using hfit
        have HTT : Hid (T = ((trnL r m l, -sm), 0)) := Lib.hid (by rw [← HT.out]; unfold trnT; rw [HOK.out, HA2.out]; rfl)
        clear hfit
        go_wp2_with fail
        go_ret3
        rw [HTT.out]
        exact ⟨_, rfl, HOW.out, HB.out⟩
      · have HTT : Hid (T = (([], 0), 2)) := Lib.hid (by rw [← HT.out]; unfold trnT; rw [HOK.out, HA2.out]; rfl)
        clear hfit
        go_wp2_with fail
        go_ret3
        rw [HTT.out]
        exact ⟨_, rfl, OwnL.nil _ _, HB.out⟩
end Go.Proofs.YtgggpaacagbmcaaGreat
