/- fx.Turn: balances in another money, and what brings them to 0. -/
import Derived.Test.YtgggpaacagbmcaaGreatX22GroupInner
import Derived.Test.YtgggpaacagbmcaaGreatX17GroupInner
import Derived.Test.YtgggpaacagbmcaaGreatX27GroupInner
import Derived.OwnWalk
set_option linter.unusedVariables false
set_option linter.unusedSimpArgs false
namespace Go.Proofs.YtgggpaacagbmcaaGreat
open Go.RowKit Go.Maps Go.Deep

def trnT (r : List Ac) (m : Mb) (l : List (Int × Int)) : (List (Int × Int) × Int) × Int :=
  if !trnB r m l then (([], 0), 2) else if (addM ((trnL r m l).map (·.2))).2 != 0 then (([], 0), (addM ((trnL r m l).map (·.2))).2) else ((trnL r m l, -(addM ((trnL r m l).map (·.2))).1), 0)
/-- a walk stands still at it -/
def Stop (p : Prop) : Prop := p
theorem stop {p : Prop} (h : Stop p) : p := h
theorem scaleT_err (a n d : Int) : (scaleT a n d).2 = 0 ∨ (scaleT a n d).2 = 2 := by
  unfold scaleT
  split
  · exact .inr rfl
  · exact .inl rfl
theorem scaleT_fit {a n d : Int} : fitsB (scaleT a n d).1 = true := by
  unfold scaleT
  split
  · rfl
  · unfold fitsB signN
    split <;> (simp; omega)
theorem trnL_succ (r : List Ac) (m : Mb) (l : List (Int × Int)) (n : Nat) (hn : n < l.length) : trnL r m (l.take (n + 1)) = trnL r m (l.take n) ++ (if (scaleT l[n].2 (rateK m (kindA r l[n].1)) 1000000).1 != 0 then [(l[n].1, (scaleT l[n].2 (rateK m (kindA r l[n].1)) 1000000).1)] else []) := by
  unfold trnL
  rw [List.take_succ_eq_append_getElem hn, List.map_append, List.filter_append]
  congr 1
  simp only [List.map_cons, List.map_nil, List.filter_cons, List.filter_nil]
theorem trnB_succ (r : List Ac) (m : Mb) (l : List (Int × Int)) (n : Nat) (hn : n < l.length) : trnB r m (l.take (n + 1)) = (trnB r m (l.take n) && ((scaleT l[n].2 (rateK m (kindA r l[n].1)) 1000000).2 == 0)) := by
  unfold trnB
  rw [List.take_succ_eq_append_getElem hn, List.all_append]
  simp
theorem trnB_no (r : List Ac) (m : Mb) (l : List (Int × Int)) (n : Nat) (hn : n < l.length) (h : (scaleT l[n].2 (rateK m (kindA r l[n].1)) 1000000).2 ≠ 0) : trnB r m l = false := by
  unfold trnB
  rw [List.all_eq_false]
  exact ⟨l[n], List.getElem_mem hn, by simpa using h⟩
theorem trnL_len (r : List Ac) (m : Mb) (l : List (Int × Int)) : (trnL r m l).length ≤ l.length := by
  unfold trnL
  refine Nat.le_trans (List.length_filter_le _ _) ?_
  rw [List.length_map]
  exact Nat.le_refl _
theorem rateK_bd {m : Mb} (hm : mbB m = true) (k : Int) : 0 ≤ rateK m k ∧ rateK m k ≤ 1000000000 := by
  unfold mbB rateB at hm
  simp at hm
  unfold rateK
  split
  · omega
  · split <;> omega
theorem rateK_is (m : Mb) (k : Int) : rateK m k = if k == 4 || k == 5 then m.av else if k == 3 then m.ol else m.cl := rfl
theorem kind_acD (r : List Ac) (k : Int) : (acD r k).kind = kindA r k := by
  unfold acD kindA
  cases findA r k <;> rfl
def TrnPost (w : World) (t : (List (Int × Int) × Int) × Int) (e : Ending) (w' : World) : Prop := ∃ v, e = .returned (.tuple #[v, .int .i64 t.1.2, .int .i64 t.2]) ∧ OwnL tBal w' w.heap.size v t.1.1 ∧ Below w.heap.size w w'

set_option maxHeartbeats 8000000 in
set_option maxRecDepth 100000 in
theorem fxTurn_any {w : World} {c : Nat} {mb : Option Nat} {r : List Ac} (hc : ChartAt w c mb r) {m : Mb} (hm : mbB m = true) (l : List (Int × Int)) (a : Option Addr) (cap : Nat) {F : Nat → Prop} (hs : Sl tBal w F a l) (hl : l.length ≤ 800) (hf : ∀ x ∈ l, fitsB x.2 = true) :
    Calls Tryz.prog 94 #[.pointer (some ⟨c, 0, none⟩), .slice a l.length cap, rtsV m.cl m.av m.ol] w (TrnPost w (trnT r m l)) := by
  have HH := Lib.hid hc
  have HS := Lib.hid hs
  have HF := Lib.hid hf
  have HM := Lib.hid hm
  obtain ⟨x, y, z, hx, hy, hz⟩ : ∃ x y z, m.cl = x ∧ m.av = y ∧ m.ol = z := ⟨_, _, _, rfl, rfl, rfl⟩
  have HK := Lib.hid (fun W => by
    have := fxCheck_any m.cl m.av m.ol W
    rw [show rtsE m.cl m.av m.ol = 0 by unfold rtsE; exact if_pos hm, hx, hy, hz] at this
    exact this)
  have HRT := Lib.hid (fun k W => by
    have := fxRate_any m.cl m.av m.ol k W
    rw [← rateK_is, hx, hy, hz] at this
    exact this)
  have HSC := Lib.hid (fun (v k : Int) (hv : fitsB v = true) W => scale_mil hv (rateK_bd hm k).1 (rateK_bd hm k).2 W)
  rw [hx, hy, hz]
  have HR0 := Lib.hid (blk_new w (.cells #[.int .i64 x, .int .i64 y, .int .i64 z] 70))
  have HB0 := Lib.hid ((Below.refl w.heap.size w).alloc (Nat.le_refl _) (.cells #[.int .i64 x, .int .i64 y, .int .i64 z] 70))
  clear hx hy hz
  clear hc hs hf hm
  obtain ⟨j0, hj, hy0, hy1, hy2⟩ := info_parts infoBal
  obtain ⟨i0, hi, hz0, hz1, hz2⟩ := info_parts infoInt
  go_enter Tryz.func94, Tryz.ntmps94
  go_wp2_with fail
  refine (HK.out _).mono ?_
  rintro en w1 ⟨rfl, hb⟩
  have HR1 := Lib.hid (blk_below HR0.out hb)
  have HB1 := Lib.hid (belows_then HB0.out HB0.out.size hb)
  clear hb HR0 HB0 HK
  go_wp2_with fail
  go_loopw [9, 10, 28] (fun vo va vi wr => ∃ (n : Nat) (vx vy : Value), vx = vo ∧ vy = va ∧ n ≤ l.length ∧ vi = .int .i64 n ∧ OwnL tBal wr w.heap.size vx (trnL r m (l.take n)) ∧ OwnL tInt wr w.heap.size vy ((trnL r m (l.take n)).map (·.2)) ∧ ApartV vx vy ∧ Below w.heap.size w wr ∧ wr.heap[w.heap.size]? = some (.cells #[.int .i64 x, .int .i64 y, .int .i64 z] 70 (0, 0)) ∧ Hid (trnB r m (l.take n) = true)) (fun _ _ vi _ => l.length - (Go.RowKit.intOf vi).toNat)
  case atStart => exact ⟨0, _, _, rfl, rfl, Nat.zero_le _, rfl, OwnL.nil _ _, OwnL.nil _ _, .inl rfl, HB1.out, HR1.out, Lib.hid rfl⟩
  case round =>
    obtain ⟨n, vo, va, rfl, rfl, hn, rfl, ho, hp, hap, hb, hr, hok⟩ := hrel
    have HO := Lib.hid ho
    have HP := Lib.hid hp
    have HAP := Lib.hid hap
    have HB := Lib.hid hb
    have HR := Lib.hid hr
    clear ho hp hap hb hr
    by_cases hlt : n < l.length
    · obtain ⟨ad, rfl, _, hadl, hc0, hc1, g0, g1⟩ := bal_at (Sl.keep (fun k hk _ => HB.out.block k hk) HS.out) n hlt
      have HLS := Lib.hid (trnL_succ r m l n hlt)
      have HBS := Lib.hid (trnB_succ r m l n hlt)
      have HBN := Lib.hid (trnB_no r m l n hlt)
      have HFI := Lib.hid (HF.out _ (List.getElem_mem hlt))
      have hnum : (trnL r m (l.take n)).length ≤ 800 := by
        have := trnL_len r m (l.take n)
        rw [List.length_take] at this
        omega
      generalize l[n] = xx at *
      obtain ⟨k, v⟩ := xx
      simp only at hc0 hc1 g0 g1
      have G0 := Lib.hid g0
      have HBA : Hid (Below wr.heap.size wr (wr.alloc (.cells #[.int .i64 k, .int .i64 v] 62))) := Lib.hid ((Below.refl _ _).alloc (Nat.le_refl _) _)
      have HZA := Lib.hid (blk_new wr (.cells #[.int .i64 k, .int .i64 v] 62))
      have HC := Lib.hid (chget_any ((HH.out.below HB.out).below HBA.out) k g0)
      clear g0 g1
      go_wp2_with fail
      refine HC.out.mono ?_
      rintro en w2 ⟨rfl, hb⟩
      have hkd := kind_acD r k
      generalize acD r k = ac at hkd ⊢
      obtain ⟨c1, c2, c3⟩ := ac
      simp only at hkd
      have HKD := Lib.hid hkd
      have HB2 := Lib.hid (belows_then (belows_then HB.out HB.out.size HBA.out) (Nat.le_trans HB.out.size HBA.out.size) hb)
      have HO2 := Lib.hid ((HO.out.below HBA.out).below hb)
      have HP2 := Lib.hid ((HP.out.below HBA.out).below hb)
      have HX2 := Lib.hid (blk_below HZA.out hb)
      have HR2 := Lib.hid (blk_below (blk_below HR.out HBA.out) hb)
      clear hb hkd HBA HZA HC hc0 hc1 hadl
      go_wp2_with fail
      refine abs_world (S := fun wy => wy.heap[wr.heap.size]? = some (.cells #[.int .i64 k, .int .i64 v] 62 (0, 0)) ∧ wy.heap[w2.heap.size]? = some (.cells #[.int .i64 c1, .int .i64 c2, .bool c3] 79 (0, 0)) ∧ wy.heap[w.heap.size]? = some (.cells #[.int .i64 x, .int .i64 y, .int .i64 z] 70 (0, 0)) ∧ Below w.heap.size w wy ∧ OwnL tBal wy w.heap.size vo (trnL r m (l.take n)) ∧ OwnL tInt wy w.heap.size va ((trnL r m (l.take n)).map (·.2))) ?_ ⟨blk_alloc HX2.out _, blk_new w2 _, blk_alloc HR2.out _, HB2.out.alloc HB2.out.size _, HO2.out.alloc _, HP2.out.alloc _⟩
      rintro wy ⟨hxy, hqy, hry, hby, hoy, hpy⟩
      have HXY := Lib.hid hxy
      have HQY := Lib.hid hqy
      have HRY := Lib.hid hry
      have HBY := Lib.hid hby
      have HOY := Lib.hid hoy
      have HPY := Lib.hid hpy
      clear hxy hqy hry hby hoy hpy HB2 HO2 HP2 HX2 HR2
      have HSK := Lib.hid (fun W => HSC.out v (kindA r k) HFI.out W)
      have HLS2 := Lib.hid HLS.out
      have HBS2 := Lib.hid HBS.out
      have HBN2 := Lib.hid HBN.out
      have HRK := Lib.hid (HRT.out (kindA r k))
      clear HLS HBS HBN HSC HRT
      generalize rateK m (kindA r k) = rk at HSK HLS2 HBS2 HBN2 HRK
      generalize kindA r k = kk at HRK HKD
      have hkk := HKD.out
      subst hkk
      have herr := scaleT_err v rk 1000000
      have hfit := scaleT_fit (a := v) (n := rk) (d := 1000000)
      generalize scaleT v rk 1000000 = sc at HSK HLS2 HBS2 HBN2 herr hfit
      obtain ⟨s, er⟩ := sc
      simp only at herr hfit
      have HFT := Lib.hid hfit
      have HER := Lib.hid herr
      have HNM := Lib.hid hnum
      have HLT := Lib.hid hlt
      have HN := Lib.hid hn
      clear hfit herr hnum hlt hn
      have hS : SM wy wy := Below.refl _ _
      have KS : Hid (∀ W, SM wy W → (W.cell? ⟨wr.heap.size, 1, none⟩ = some (.int .i64 v) ∧ W.cell? ⟨w.heap.size, 0, none⟩ = some (.int .i64 x) ∧ W.cell? ⟨w.heap.size, 1, none⟩ = some (.int .i64 y) ∧ W.cell? ⟨w.heap.size, 2, none⟩ = some (.int .i64 z) ∧ W.cell? ⟨w2.heap.size, 1, none⟩ = some (.int .i64 c2))) := Lib.hid (fun W h => ⟨SM.at' HXY.out h 1 rfl, SM.at' HRY.out h 0 rfl, SM.at' HRY.out h 1 rfl, SM.at' HRY.out h 2 rfl, SM.at' HQY.out h 1 rfl⟩)
      go_region_held3 (fun w' => w'.cell? ⟨wr.heap.size, 1, none⟩ = some (.int .i64 v) ∧ w'.cell? ⟨w.heap.size, 0, none⟩ = some (.int .i64 x) ∧ w'.cell? ⟨w.heap.size, 1, none⟩ = some (.int .i64 y) ∧ w'.cell? ⟨w.heap.size, 2, none⟩ = some (.int .i64 z) ∧ w'.cell? ⟨w2.heap.size, 1, none⟩ = some (.int .i64 c2)) (first | with_reducible exact KS.out _ HB5.out | with_reducible exact KS.out _ HB4.out | with_reducible exact KS.out _ (SM.drew hS)) (first | (go_at_call 136; refine (HRK.out _).mono ?_; rintro en w4 ⟨rfl, hb⟩; have HB4 : Hid (SM wy w4) := Lib.hid (SM.call (SM.drew hS) hb); clear hb) | (go_at_call 95; refine (HSK.out _).mono ?_; rintro en w5 ⟨rfl, hb⟩; have HB5 : Hid (SM wy w5) := Lib.hid (SM.call HB4.out hb); clear hb))
      have HBY5 := Lib.hid (HBY.out.trans (Below.mono (show Below wy.heap.size wy w5 from HB5.out) HBY.out.size))
      have HO5 := Lib.hid (HOY.out.below (show Below wy.heap.size wy w5 from HB5.out))
      have HP5 := Lib.hid (HPY.out.below (show Below wy.heap.size wy w5 from HB5.out))
      have HR5 := Lib.hid (blk_below HRY.out (show Below wy.heap.size wy w5 from HB5.out))
      have HX5 := Lib.hid (blk_below HXY.out (show Below wy.heap.size wy w5 from HB5.out))
      have hxc := blk_cells HX5.out
      have hxl := blk_lt HX5.out
      have hn := HN.out
      have hlt := HLT.out
      rcases HER.out with he | he
      · subst he
        have HB1' : Hid (trnB r m (l.take (n + 1)) = true) := Lib.hid (by rw [HBS2.out, hok.out]; rfl)
        cases hs0 : s == 0
        · have hs1 : (s != 0) = true := by simpa using hs0
          have hsz : s ≠ 0 := by simpa using hs0
          have HN1 : Hid (trnL r m (l.take (n + 1)) = trnL r m (l.take n) ++ [(k, s)]) := Lib.hid (by rw [HLS2.out]; simp [hsz])
          have hsb : -1000000000000000 ≤ s ∧ s ≤ 1000000000000000 := by simpa [fitsB] using HFT.out
          have HSW : Hid (I64 s) := Lib.hid (by unfold I64 Lit.wf; simp [IntKind.min, IntKind.max, IntKind.bits, IntKind.signed]; omega)
          have HOA := Lib.hid (HO5.out.alloc (.cells #[.int .i64 k, .int .i64 s] 62))
          have HBA := Lib.hid (HBY5.out.alloc HBY5.out.size (.cells #[.int .i64 k, .int .i64 s] 62))
          have HPA := Lib.hid (HP5.out.alloc (.cells #[.int .i64 k, .int .i64 s] 62))
          have HRA := Lib.hid (blk_alloc HR5.out (.cells #[.int .i64 k, .int .i64 s] 62))
          have HSL : Hid (Sl tBal (w5.alloc (.cells #[.int .i64 k, .int .i64 s] 62)) (fun kk => some kk ≠ vo.ownBlock ∧ kk < (w5.alloc (.cells #[.int .i64 k, .int .i64 s] 62)).heap.size) (some ⟨w5.heap.size, 0, none⟩) [(k, s)]) :=
            Lib.hid (sl_one2 tBal (x := (k, s)) rfl (blk_new w5 _) ⟨fun e => by have := (HO5.out.lt _ e.symm).2; omega, by simp⟩ (bal_mk (k, s) G0.out HSW.out))
          have hnum := HNM.out
          have h63 : (trnL r m (l.take n)).length + [((k, s) : Int × Int)].length ≤ maxLen := by simp only [List.length_cons, List.length_nil]; unfold maxLen; omega
          have hby : ((trnL r m (l.take n)).length + [((k, s) : Int × Int)].length) * 16 ≤ 140737488355328 := by simp only [List.length_cons, List.length_nil]; omega
          have h63' : ((trnL r m (l.take n)).map (·.2)).length + [s].length ≤ maxLen := by rw [List.length_map]; simp only [List.length_cons, List.length_nil]; unfold maxLen; omega
          have hby' : (((trnL r m (l.take n)).map (·.2)).length + [s].length) * 8 ≤ 140737488355328 := by rw [List.length_map]; simp only [List.length_cons, List.length_nil]; omega
          have HH63 := Lib.hid (And.intro h63' hby')
          clear hs0 hnum h63' hby'
          go_wp2_with (first
            | (at_builtin; have hoa := HOA.out; refine wp_app (T := tBal) rfl _ _ 49 rfl j0 (.agg #[.int .i64 0, .int .i64 0]) 16 Tryz.underlying49 hj hy0 hy1 hy2 rfl (by decide) bal_one w.heap.size vo (trnL r m (l.take n)) rfl hoa ⟨w5.heap.size, 0, none⟩ 1 [(k, s)] rfl HSL.out h63 hby HBA.out.size ?_; intro v8 w8 hown hg hnil hat; have HO8 := Lib.hid hown; have HB8 := Lib.hid (Below.grown HBA.out hg HBA.out.size (fun k e => (HOA.out.lt k e).1)); have HP8 := Lib.hid (HPA.out.far (fun _ _ _ _ _ _ h => h) hg HAP.out.symm); have HR8 := Lib.hid ((hg.block w.heap.size (blk_lt HRA.out) (HOA.out.ne HRA.out (by decide))).trans HRA.out); have HAP8 := Lib.hid (HAP.out.symm.stepF HPA.out hat); clear hown hg hnil hat; have HP9 := Lib.hid (HP8.out.alloc (.cells #[.int .i64 s] 3)); have HO9 := Lib.hid (HO8.out.alloc (.cells #[.int .i64 s] 3)); have HB9 := Lib.hid (HB8.out.alloc HB8.out.size (.cells #[.int .i64 s] 3)); have HR9 := Lib.hid (blk_alloc HR8.out (.cells #[.int .i64 s] 3)); have HSL9 : Hid (Sl tInt (w8.alloc (.cells #[.int .i64 s] 3)) (fun kk => some kk ≠ va.ownBlock ∧ kk < (w8.alloc (.cells #[.int .i64 s] 3)).heap.size) (some ⟨w8.heap.size, 0, none⟩) [s]) := Lib.hid (sl_oneI (blk_new w8 _) ⟨fun e => by have := (HP8.out.lt _ e.symm).2; omega, by simp⟩ HSW.out); clear HOA hoa HSL)
            | (at_builtin; have hp9 := HP9.out; refine stop ?_))
          unfold Stop
          obtain ⟨X, hX⟩ : ∃ X, (trnL r m (l.take n)).map (·.2) = X := ⟨_, rfl⟩
          have HX := Lib.hid hX
          rw [hX] at hp9 HH63
          clear hX
          refine wp_app (T := tInt) rfl (.tmp 61) (.tmp 63) 94 rfl i0 (.int .i64 0) 8 Tryz.underlying94 hi hz0 hz1 hz2 rfl (by decide) int_one w.heap.size va X rfl hp9 ⟨w8.heap.size, 0, none⟩ 1 [s] rfl HSL9.out HH63.out.1 HH63.out.2 HB9.out.size ?_
          intro v10 w10 hown hg hnil hat
          have HP10 := Lib.hid hown
          have HB10 := Lib.hid (Below.grown HB9.out hg HB9.out.size (fun k e => (HP9.out.lt k e).1))
          have HO10 := Lib.hid (HO9.out.far bal_Free hg HAP8.out.symm)
          have HR10 := Lib.hid ((hg.block w.heap.size (blk_lt HR9.out) (HP9.out.ne HR9.out (by decide))).trans HR9.out)
          have HAP10 := Lib.hid (HAP8.out.symm.stepF HO9.out hat)
          clear hown hg hnil hat
          go_wp2_with fail
          go_roundw
          case rel => exact ⟨n + 1, _, _, rfl, rfl, by omega, by go_num, by rw [HN1.out]; exact HO10.out, by rw [HN1.out, List.map_append, HX.out]; exact HP10.out, HAP10.out, HB10.out, HR10.out, HB1'⟩
          case measure => simp [Go.RowKit.intOf]; omega
        · have hs1 : (s != 0) = false := by simpa using hs0
          have hsz : s = 0 := by simpa using hs0
          have HN1 : Hid (trnL r m (l.take (n + 1)) = trnL r m (l.take n)) := Lib.hid (by rw [HLS2.out]; simp [hsz])
          clear hs0
          go_wp2_with fail
          go_roundw
          case rel => exact ⟨n + 1, _, _, rfl, rfl, by omega, by go_num, by rw [HN1.out]; exact HO5.out, by rw [HN1.out]; exact HP5.out, HAP.out, HBY5.out, HR5.out, HB1'⟩
          case measure => simp [Go.RowKit.intOf]; omega
      · subst he
        have HT : Hid (trnT r m l = (([], 0), 2)) := Lib.hid (by unfold trnT; rw [HBN2.out (by decide)]; rfl)
        go_wp2_with fail
        go_ret3
        rw [HT.out]
        exact ⟨_, rfl, OwnL.nil _ _, HBY5.out⟩
    · have HL : Hid (l.take n = l) := Lib.hid (take_all hn hlt)
      have HOK := Lib.hid hok.out
      rw [HL.out] at HOK
      have hown := HO.out
      have hpwn := HP.out
      rw [HL.out] at hown hpwn
      obtain ⟨M, hM⟩ : ∃ M, M = (trnL r m l).map (·.2) := ⟨_, rfl⟩
      have HM' := Lib.hid hM
      have hml : M.length ≤ 100000 := by rw [hM, List.length_map]; have := trnL_len r m l; omega
      rw [← hM] at hpwn
      have HOW := Lib.hid hown
      clear hM hown
      obtain ⟨oa, oc, rfl, _, _, hos⟩ := hpwn.slice
      have HOS := Lib.hid hos
      clear hpwn hos
      obtain ⟨sm, er, hadd⟩ : ∃ s e, addM M = (s, e) := ⟨_, _, rfl⟩
      have HADD := Lib.hid hadd
      have herr := addM_err M
      have hwf := addM_wf M
      rw [hadd] at herr hwf
      simp only at herr hwf
      clear hadd
      go_wp2_with fail
      refine (madd_is M oa oc _ HOS.out hml HADD.out).mono ?_
      rintro en w4 ⟨rfl, hb⟩
      have HB4 := Lib.hid (belows_then HB.out HB.out.size hb)
      have HO4 := Lib.hid (HOW.out.below hb)
      clear hb
      rcases herr with rfl | rfl
      · have HT : Hid (trnT r m l = ((trnL r m l, -sm), 0)) := Lib.hid (by unfold trnT; rw [HOK.out, ← HM'.out, HADD.out]; rfl)
        have hfs := Lib.hid (show fitsB sm = true by have h1 := addM_fit M; rw [HADD.out] at h1; exact h1)
        have hsb : -1000000000000000 ≤ sm ∧ sm ≤ 1000000000000000 := by simpa [fitsB] using hfs.out
        go_wp2_with fail
        go_ret3
        rw [HT.out]
        exact ⟨_, rfl, HO4.out, HB4.out⟩
      · have HT : Hid (trnT r m l = (([], 0), 2)) := Lib.hid (by unfold trnT; rw [HOK.out, ← HM'.out, HADD.out]; rfl)
        go_wp2_with fail
        go_ret3
        rw [HT.out]
        exact ⟨_, rfl, OwnL.nil _ _, HB4.out⟩
end Go.Proofs.YtgggpaacagbmcaaGreat
