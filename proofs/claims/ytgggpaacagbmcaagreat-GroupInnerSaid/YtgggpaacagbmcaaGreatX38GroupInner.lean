/- group: member, walked. -/
import Derived.Test.YtgggpaacagbmcaaGreatX36GroupInner
set_option linter.unusedVariables false
set_option linter.unusedSimpArgs false
namespace Go.Proofs.YtgggpaacagbmcaaGreat
open Go.RowKit Go.Maps Go.Deep

theorem neg_run {x : Int} (h : -1000000000000000 ≤ x ∧ x ≤ 1000000000000000) (V : World) : (Op.unary .neg (.int .i64 x)).run Tryz.prog V = .ok (.int .i64 (-x)) V := by
  have h2 : IntKind.i64.wrap (-x) = -x := by
    obtain ⟨h3, h4⟩ := h
    simp only [IntKind.wrap, IntKind.bits, IntKind.signed, Int.reducePow]
    by_cases h5 : 0 ≤ -x
    · have h6 : (-x) % 18446744073709551616 = -x := by omega
      have h7 : ¬ 9223372036854775808 ≤ -x := by omega
      simp [h6, h7]
    · have h6 : (-x) % 18446744073709551616 = -x + 18446744073709551616 := by omega
      have h7 : 9223372036854775808 ≤ -x + 18446744073709551616 := by omega
      simp [h6, h7]
  simp [go_sem, h2]
theorem filt_yes {α β : Type} (q : α → Bool) (f : α → β) (l : List α) (n : Nat) (hn : n < l.length) (h : q l[n] = true) : ((l.take (n + 1)).filter q).map f = ((l.take n).filter q).map f ++ [f l[n]] := by
  rw [List.take_succ_eq_append_getElem hn, List.filter_append, List.map_append]
  simp [h]
theorem filt_no {α β : Type} (q : α → Bool) (f : α → β) (l : List α) (n : Nat) (hn : n < l.length) (h : q l[n] = false) : ((l.take (n + 1)).filter q).map f = ((l.take n).filter q).map f := by
  rw [List.take_succ_eq_append_getElem hn, List.filter_append, List.map_append]
  simp [h]

set_option maxHeartbeats 16000000 in
set_option maxRecDepth 100000 in
theorem grMember_any {w0 w : World} {W c g : Nat} {p : Int} {ma : Option Addr} {ms : List Mb} {mc : Nat} {x4 x5 x6 x7 : Value} {vs : List Value} {LL : List (List (Int × Int))} {L5 L6 L7 : List Int} (hS : WSt w0 w W c g p ma ms mc x4 x5 x6 x7 vs LL L5 L6 L7)
    {G : Nat → Prop} (hms : Sl tMb w0 G ma ms) (hml : ms.length ≤ maxLen) {mb : Option Nat} {r : List Ac} (hch : ChartAt w0 c mb r) {a : Option Addr} {cap : Nat} {J : List Jn} {F : Nat → Prop} (hbk : BookAt w0 g a cap J F) (hl : J.length ≤ 100) (hgood : GoodJ J) (hpe : ∀ x ∈ J, 0 ≤ x.pe)
    (m : Mb) (hmb : mbB m = true) (hsh : 0 ≤ m.sh ∧ m.sh ≤ 10000) (hlin : linW ms J m.en p = linT ms J m.en p) (hn : vs.length ≤ 100 ∧ L5.length ≤ 100 ∧ L6.length ≤ 100 ∧ L7.length ≤ 100) :
    Calls Tryz.prog 29 #[.pointer (some ⟨W, 0, none⟩), mbv m] w (MemPost w0 W c g p ma ms mc vs LL L5 L6 L7 (memE r ms J p m) (memP r ms J p m)) := by
  obtain ⟨⟨⟨L, O⟩, e⟩, h1⟩ : ∃ t, linT ms J m.en p = t := ⟨_, rfl⟩
  obtain ⟨⟨⟨tl, tp⟩, te⟩, h2⟩ : ∃ t, trnT r m L = t := ⟨_, rfl⟩
  obtain ⟨⟨s, es⟩, h3⟩ : ∃ t, scaleT O m.cl 1000000 = t := ⟨_, rfl⟩
  obtain ⟨⟨aa, ea⟩, h4⟩ : ∃ t, addM (s :: tl.map (·.2)) = t := ⟨_, rfl⟩
  obtain ⟨⟨bb, eb⟩, h5⟩ : ∃ t, addM ((s :: (tl.filter (shrB r)).map (·.2)) ++ [-aa]) = t := ⟨_, rfl⟩
  obtain ⟨⟨x, ex⟩, h6⟩ : ∃ t, scaleT bb (10000 - m.sh) 10000 = t := ⟨_, rfl⟩
  obtain ⟨hE, hP⟩ := memE_is h1 h2 h3 h4 h5 h6
  obtain ⟨mE, hmE⟩ : ∃ mE, memE r ms J p m = mE := ⟨_, rfl⟩
  obtain ⟨mP, hmP⟩ : ∃ mP, memP r ms J p m = mP := ⟨_, rfl⟩
  rw [hmE] at hE ⊢
  rw [hmP] at hP ⊢
  have HE := Lib.hid hE
  have HP := Lib.hid hP
  have HLI := Lib.hid (hlin.trans h1)
  have HLT := Lib.hid h1
  have HTR := Lib.hid h2
  have HSC := Lib.hid h3
  have HAD := Lib.hid h4
  have HBD := Lib.hid h5
  have HXD := Lib.hid h6
  have HMB := Lib.hid hmb
  have HLLEN : Hid (L.length ≤ 800 ∨ e ≠ 0) := Lib.hid (by
    by_cases he : e = 0
    · subst he
      left
      have hL := (linT_ok h1).2.2
      have q1 := tellS_len (accS [] (outL ms (linesOf J m.en 0 p)))
      have q2 := accS_len (outL ms (linesOf J m.en 0 p)) []
      have q3 := outL_len ms (linesOf J m.en 0 p)
      have q4 : (linesOf J m.en 0 p).length ≤ 8 * J.length := by
        unfold linesOf
        have z1 := flat8 (l := J.filter (cnt m.en 0 p)) (fun x hx => hgood x (List.mem_filter.1 hx).1)
        have z2 := List.length_filter_le (cnt m.en 0 p) J
        omega
      simp only [List.length_nil] at q2
      rw [hL]
      omega
    · exact .inr he)
  clear hE hP hlin h1 h2 h3 h4 h5 h6 hmE hmP hmb
  obtain ⟨en, sh, cl, av, ol⟩ := m
  simp only at HLI HLT HSC HXD hsh
  have HMS := Lib.hid hms
  have HCH := Lib.hid hch
  have HBK := Lib.hid hbk
  have HGD := Lib.hid hgood
  have HPE := Lib.hid hpe
  have HSA := Lib.hid (hS.call ((Below.refl w.heap.size w).alloc (Nat.le_refl _) (.cells #[.int .i64 en, .int .i64 sh, .int .i64 cl, .int .i64 av, .int .i64 ol] 72)))
  have HZ0 := Lib.hid (blk_new w (.cells #[.int .i64 en, .int .i64 sh, .int .i64 cl, .int .i64 av, .int .i64 ol] 72))
  have HLN := Lib.hid (by
    have hb := HSA.out.bel
    have := grLines_any (W := W) HSA.out.cell (Sl.keep (fun k hk _ => hb.block k hk) HMS.out) hml (HBK.out.below hb) (by omega) HGD.out HPE.out ⟨en, sh, cl, av, ol⟩
    rw [show (Mb.mk en sh cl av ol).en = en from rfl, HLI.out] at this
    exact this)
  clear hms hch hbk hgood hpe hS
  obtain ⟨iA, hiA, hiA0, hiA1, hiA2⟩ := info_parts infoBalV
  obtain ⟨iI, hiI, hiI0, hiI1, hiI2⟩ := info_parts infoInt
  go_enter Tryz.func29, Tryz.ntmps29
  go_wp2_with fail
  refine HLN.out.mono ?_
  rintro en1 w1 ⟨v1, rfl, ho1, hb1⟩
  have HS1 := Lib.hid (HSA.out.call hb1)
  have HZ1 := Lib.hid (blk_below HZ0.out hb1)
  have HOL := Lib.hid (ho1.mono HSA.out.bel.size)
  clear ho1 hb1 HLN HSA HZ0
  obtain ⟨la, lc, rfl, -, -, hls⟩ := HOL.out.slice
  have HLS := Lib.hid hls
  clear hls
  have hzc := blk_cells HZ1.out
  have hzl := blk_lt HZ1.out
  have hwc := blk_cells HS1.out.cell
  have hwl := blk_lt HS1.out.cell
  cases q1 : e == 0
  · have q2 : (e != 0) = true := by simpa using q1
    have HR : Hid (mE = e) := Lib.hid (by rw [HE.out]; unfold memN; rw [if_pos q2])
    have hne : e ≠ 0 := by simpa using q1
    have HNE := Lib.hid hne
    clear q1 hne
    go_wp2_with fail
    go_ret
    rw [HR.out]
    exact ⟨rfl, HS1.out.bel, fun h => absurd h HNE.out⟩
  obtain rfl : e = 0 := by simpa using q1
  clear q1
  have hL8 : L.length ≤ 800 := HLLEN.out.resolve_right (by simp)
  obtain ⟨hLf, hOf, -⟩ := linT_ok HLT.out
  have HLF := Lib.hid hLf
  have HOF := Lib.hid hOf
  have HTU : Hid (∀ V, SM w1 V → Calls Tryz.prog 94 #[.pointer (some ⟨c, 0, none⟩), .slice la L.length lc, rtsV cl av ol] V (TrnPost V ((tl, tp), te))) := Lib.hid (fun V hb => by
    have := fxTurn_any (w := V) (HCH.out.below (HS1.out.bel.trans (Below.mono (show Below w1.heap.size w1 V from hb) HS1.out.bel.size))) (m := ⟨en, sh, cl, av, ol⟩) HMB.out L la lc (Sl.keep (fun k hk _ => Below.block (show Below w1.heap.size w1 V from hb) k hk) HLS.out) hL8 HLF.out
    rw [HTR.out] at this
    exact this)
  have hSM : SM w1 w1 := Below.refl _ _
  have KS : Hid (∀ V, SM w1 V → (V.cell? ⟨W, 0, none⟩ = some (.pointer (some ⟨c, 0, none⟩)) ∧ V.cell? ⟨w.heap.size, 2, none⟩ = some (.int .i64 cl) ∧ V.cell? ⟨w.heap.size, 3, none⟩ = some (.int .i64 av) ∧ V.cell? ⟨w.heap.size, 4, none⟩ = some (.int .i64 ol))) := Lib.hid (fun V h => ⟨SM.at' HS1.out.cell h 0 rfl, SM.at' HZ1.out h 2 rfl, SM.at' HZ1.out h 3 rfl, SM.at' HZ1.out h 4 rfl⟩)
  clear hLf hOf
  go_wp2_with fail
  go_region_held3 (fun w' => w'.cell? ⟨W, 0, none⟩ = some (.pointer (some ⟨c, 0, none⟩)) ∧ w'.cell? ⟨w.heap.size, 2, none⟩ = some (.int .i64 cl) ∧ w'.cell? ⟨w.heap.size, 3, none⟩ = some (.int .i64 av) ∧ w'.cell? ⟨w.heap.size, 4, none⟩ = some (.int .i64 ol)) (first | with_reducible exact KS.out _ HB2.out | with_reducible exact KS.out _ (SM.drew hSM)) ((go_at_call 94; refine (HTU.out _ (SM.drew hSM)).mono ?_; rintro en w2 ⟨v2, rfl, ho, hb⟩; have HB2 : Hid (SM w1 w2) := Lib.hid (SM.call (SM.drew hSM) hb); have HO2 := Lib.hid ho; clear ho hb))
  have HS2 := Lib.hid (HS1.out.call HB2.out)
  have HZ2 := Lib.hid (blk_below HZ1.out HB2.out)
  have HOT : Hid (OwnL tBal w2 w1.heap.size v2 tl) := Lib.hid HO2.out
  have HSZ2 := Lib.hid (And.intro HS1.out.bel.size (show w1.heap.size ≤ w2.heap.size from Below.size HB2.out))
  have HAP : Hid (∀ u ∈ vs, ApartV u v2) := Lib.hid (fun u hu => (apart_new (n := w1.heap.size) (fun k hk => (HOT.out.lt k hk).1) (fun k hk => (HS1.out.lots.lt hu k hk).2)).symm)
  clear HO2 hSM KS HTU hzc hzl hwc hwl HOL HLS
  obtain ⟨ta, tc, rfl, -, -, hts⟩ := HOT.out.slice
  have HTS := Lib.hid hts
  clear hts
  have hzc := blk_cells HZ2.out
  have hzl := blk_lt HZ2.out
  cases q1 : te == 0
  · have q2 : (te != 0) = true := by simpa using q1
    have HR : Hid (mE = te) := Lib.hid (by rw [HE.out]; unfold memN; rw [if_neg (by decide)]; rw [if_pos q2])
    have hne : te ≠ 0 := by simpa using q1
    have HNE := Lib.hid hne
    clear q1 hne
    go_wp2_with fail
    go_ret
    rw [HR.out]
    exact ⟨rfl, HS2.out.bel, fun h => absurd h HNE.out⟩
  obtain rfl : te = 0 := by simpa using q1
  clear q1
  have hrate : 0 ≤ cl ∧ cl ≤ 1000000000 := by
    have := HMB.out
    unfold mbB rateB at this
    simp at this
    omega
  have HSM := Lib.hid (fun V => by
    have := scale_mil HOF.out hrate.1 hrate.2 V
    rw [HSC.out] at this
    exact this)
  have hsf : fitsB s = true := by have := scaleT_fit (a := O) (n := cl) (d := 1000000); rw [HSC.out] at this; exact this
  have htl := (trnT_ok HTR.out).1
  have htlen : tl.length ≤ 800 := by rw [htl]; exact Nat.le_trans (trnL_len _ _ _) hL8
  have HSF := Lib.hid hsf
  clear hrate htl hsf
  go_wp2_with fail
  refine (HSM.out _).mono ?_
  rintro en3 w3 ⟨rfl, hb⟩
  have HS3 := Lib.hid (HS2.out.call hb)
  have HZ3 := Lib.hid (blk_below HZ2.out hb)
  have HT3 := Lib.hid (HOT.out.below hb)
  have HSZ3 := Lib.hid (And.intro HSZ2.out.1 (Nat.le_trans HSZ2.out.2 hb.size))
  clear hb HS2 HZ2 HOT HSM HTS HB2 hzc hzl HS1 HZ1 HSZ2
  cases q1 : es == 0
  · have q2 : (es != 0) = true := by simpa using q1
    have HR : Hid (mE = es) := Lib.hid (by rw [HE.out]; unfold memN; rw [if_neg (by decide)]; rw [if_neg (by decide)]; rw [if_pos q2])
    have hne : es ≠ 0 := by simpa using q1
    have HNE := Lib.hid hne
    clear q1 hne
    go_wp2_with fail
    go_ret
    rw [HR.out]
    exact ⟨rfl, HS3.out.bel, fun h => absurd h HNE.out⟩
  obtain rfl : es = 0 := by simpa using q1
  clear q1
  have hsi : I64 s := by
    have : -1000000000000000 ≤ s ∧ s ≤ 1000000000000000 := by simpa [fitsB] using HSF.out
    unfold I64 Lit.wf; simp [IntKind.min, IntKind.max, IntKind.bits, IntKind.signed]; omega
  have HSI := Lib.hid hsi
  have HA0 : Hid (OwnL tInt ((w3.alloc (.cells #[.int .i64 s] 3)).alloc (.cells #[.int .i64 s] 3)) w3.heap.size (.slice (some ⟨w3.heap.size, 0, none⟩) 1 1) [s]) := Lib.hid (own_one (blk_alloc (blk_new w3 _) _) (Nat.le_refl _) hsi)
  have HR0 : Hid (OwnL tInt ((w3.alloc (.cells #[.int .i64 s] 3)).alloc (.cells #[.int .i64 s] 3)) w3.heap.size (.slice (some ⟨w3.heap.size + 1, 0, none⟩) 1 1) [s]) := Lib.hid (own_one (by have := blk_new (w3.alloc (.cells #[.int .i64 s] 3)) (.cells #[.int .i64 s] 3); simpa using this) (by omega) hsi)
  have HB0 := Lib.hid (((Below.refl w3.heap.size w3).alloc (Nat.le_refl _) (.cells #[.int .i64 s] 3)).alloc (by simp) (.cells #[.int .i64 s] 3))
  obtain ⟨ta', tc', he', -, -, hts⟩ := HT3.out.slice
  injection he' with he1 he2 he3
  subst he1
  have HTS := Lib.hid hts
  clear hts he2 he3 hsi
  go_wp2_with fail
  go_loopw [8, 9, 57] (fun vo vq vi wr => ∃ (n : Nat) (vx vy : Value), vx = vo ∧ vy = vq ∧ n ≤ tl.length ∧ vi = .int .i64 n ∧ OwnL tInt wr w3.heap.size vx (s :: (tl.take n).map (·.2)) ∧ OwnL tInt wr w3.heap.size vy (s :: ((tl.take n).filter (shrB r)).map (·.2)) ∧ ApartV vx vy ∧ Below w3.heap.size w3 wr) (fun _ _ vi _ => tl.length - (Go.RowKit.intOf vi).toNat)
  case atStart => exact ⟨0, _, _, rfl, rfl, Nat.zero_le _, rfl, HA0.out, HR0.out, .inr (by simp [Value.ownBlock]), HB0.out⟩
  case round =>
    obtain ⟨n, vo, vq, rfl, rfl, hn1, rfl, ho, hq, hap, hb⟩ := hrel
    have HO := Lib.hid ho
    have HQ := Lib.hid hq
    have HPA := Lib.hid hap
    have HB := Lib.hid hb
    clear ho hq hap hb
    by_cases hlt : n < tl.length
    · obtain ⟨ad, rfl, _, hadl, hc0, hc1, g0, g1⟩ := bal_at (Sl.keep (fun k hk _ => HB.out.block k hk) HTS.out) n hlt
      have HT1 : Hid ((tl.take (n + 1)).map (·.2) = (tl.take n).map (·.2) ++ [tl[n].2]) := Lib.hid (by rw [List.take_succ_eq_append_getElem hlt, List.map_append]; rfl)
      have HY1 := Lib.hid (filt_yes (shrB r) (·.2) tl n hlt)
      have HY0 := Lib.hid (filt_no (shrB r) (·.2) tl n hlt)
      have hx1 : (s :: (tl.take n).map (·.2)).length ≤ 801 := by rw [List.length_cons, List.length_map, List.length_take]; omega
      have hx2 : (s :: ((tl.take n).filter (shrB r)).map (·.2)).length ≤ 801 := by
        have := List.length_filter_le (shrB r) (tl.take n)
        rw [List.length_take] at this
        rw [List.length_cons, List.length_map]
        omega
      obtain ⟨X, hX⟩ : ∃ X, s :: (tl.take n).map (·.2) = X := ⟨_, rfl⟩
      obtain ⟨Y, hY⟩ : ∃ Y, s :: ((tl.take n).filter (shrB r)).map (·.2) = Y := ⟨_, rfl⟩
      have ho := HO.out
      have hq := HQ.out
      rw [hX] at ho hx1
      rw [hY] at hq hx2
      have HX : Hid (s :: (tl.take (n + 1)).map (·.2) = X ++ [tl[n].2]) := Lib.hid (by rw [HT1.out, ← hX]; rfl)
      have HY : Hid (shrB r tl[n] = true → s :: ((tl.take (n + 1)).filter (shrB r)).map (·.2) = Y ++ [tl[n].2]) := Lib.hid (fun h => by rw [HY1.out h, ← hY]; rfl)
      have HN : Hid (shrB r tl[n] = false → s :: ((tl.take (n + 1)).filter (shrB r)).map (·.2) = Y) := Lib.hid (fun h => by rw [HY0.out h, ← hY])
      have HO' := Lib.hid ho
      have HQ' := Lib.hid hq
      clear hX hY ho hq HO HQ HT1 HY1 HY0
      generalize tl[n] = xx at *
      obtain ⟨k, v⟩ := xx
      simp only at hc0 hc1 g0 g1 HX HY HN
      have G0 := Lib.hid g0
      have G1 := Lib.hid g1
      have HZB := Lib.hid (blk_alloc (blk_new wr (.cells #[.int .i64 k, .int .i64 v] 62)) (.cells #[.int .i64 v] 3))
      have HOA := Lib.hid ((HO'.out.alloc (.cells #[.int .i64 k, .int .i64 v] 62)).alloc (.cells #[.int .i64 v] 3))
      have HQA := Lib.hid ((HQ'.out.alloc (.cells #[.int .i64 k, .int .i64 v] 62)).alloc (.cells #[.int .i64 v] 3))
      have HBA := Lib.hid ((HB.out.alloc HB.out.size (.cells #[.int .i64 k, .int .i64 v] 62)).alloc (by have := HB.out.size; simp; omega) (.cells #[.int .i64 v] 3))
      have HSL : Hid (Sl tInt ((wr.alloc (.cells #[.int .i64 k, .int .i64 v] 62)).alloc (.cells #[.int .i64 v] 3)) (fun kk => some kk ≠ vo.ownBlock ∧ kk < ((wr.alloc (.cells #[.int .i64 k, .int .i64 v] 62)).alloc (.cells #[.int .i64 v] 3)).heap.size) (some ⟨wr.heap.size + 1, 0, none⟩) [v]) :=
        Lib.hid (sl_oneI (by have := blk_new (wr.alloc (.cells #[.int .i64 k, .int .i64 v] 62)) (.cells #[.int .i64 v] 3); simpa using this) ⟨fun e => by have := (HO'.out.lt _ e.symm).2; omega, by simp⟩ g1)
      have h63 : X.length + [(v : Int)].length ≤ maxLen := by simp only [List.length_cons, List.length_nil]; unfold maxLen; omega
      have hby : (X.length + [(v : Int)].length) * 8 ≤ 140737488355328 := by simp only [List.length_cons, List.length_nil]; omega
      have HH63 := Lib.hid (And.intro h63 hby)
      clear g0 g1 h63 hby hx1 HO' HQ'
      go_wp2_with (at_builtin; refine wp_app (T := tInt) rfl _ _ 94 rfl iI (.int .i64 0) 8 Tryz.underlying94 hiI hiI0 hiI1 hiI2 rfl (by decide) int_one w3.heap.size vo X rfl HOA.out ⟨wr.heap.size + 1, 0, none⟩ 1 [(v : Int)] rfl HSL.out HH63.out.1 HH63.out.2 HBA.out.size ?_; intro v5 w5 hown hg hnil hat; have HO5 := Lib.hid hown; have HB5 := Lib.hid (Below.grown HBA.out hg HBA.out.size (fun k e => (HOA.out.lt k e).1)); have HQ5 := Lib.hid (HQA.out.far int_Free hg HPA.out.symm); have HP5 := Lib.hid (HPA.out.symm.stepF HQA.out hat); have HZ5 := Lib.hid ((hg.block wr.heap.size (by simp; omega) (HOA.out.ne HZB.out (by decide))).trans HZB.out); have hz5 := blk_cells HZ5.out; have hl5 := blk_lt HZ5.out; clear hown hg hnil hat)
      have HS5 := Lib.hid (HS3.out.call HB5.out)
      have HSH := Lib.hid (grShared_any HS5.out.cell (HCH.out.below HS5.out.bel) k v G0.out)
      clear hc0 hc1 hadl
      cases hsb : shrB r (k, v)
      · rw [hsb] at HSH
        have HN1 := Lib.hid (HN.out hsb)
        clear hsb
        refine HSH.out.mono ?_
        rintro en6 w6 ⟨rfl, hb⟩
        have HB6 := Lib.hid (belows_then HB5.out HB5.out.size hb)
        have HO6 := Lib.hid (HO5.out.below hb)
        have HQ6 := Lib.hid (HQ5.out.below hb)
        clear hb HSH hz5 hl5
        go_wp2_with fail
        go_roundw
        case rel => exact ⟨n + 1, _, _, rfl, rfl, by omega, by go_num, by rw [HX.out]; exact HO6.out, by rw [HN1.out]; exact HQ6.out, HP5.out.symm, HB6.out⟩
        case measure => simp [Go.RowKit.intOf]; omega
      · rw [hsb] at HSH
        have HN1 := Lib.hid (HY.out hsb)
        clear hsb
        refine HSH.out.mono ?_
        rintro en6 w6 ⟨rfl, hb⟩
        have HB6 := Lib.hid (belows_then HB5.out HB5.out.size hb)
        have HO6 := Lib.hid ((HO5.out.below hb).alloc (.cells #[.int .i64 v] 3))
        have HQ6 := Lib.hid ((HQ5.out.below hb).alloc (.cells #[.int .i64 v] 3))
        have hz6 := blk_cells (blk_below HZ5.out hb)
        have hl6 := blk_lt (blk_below HZ5.out hb)
        have HB7 := Lib.hid (HB6.out.alloc HB6.out.size (.cells #[.int .i64 v] 3))
        have HSL7 : Hid (Sl tInt (w6.alloc (.cells #[.int .i64 v] 3)) (fun kk => some kk ≠ vq.ownBlock ∧ kk < (w6.alloc (.cells #[.int .i64 v] 3)).heap.size) (some ⟨w6.heap.size, 0, none⟩) [v]) :=
          Lib.hid (sl_oneI (blk_new w6 _) ⟨fun e => by have := ((HQ5.out.below hb).lt _ e.symm).2; omega, by simp⟩ G1.out)
        have h63 : Y.length + [(v : Int)].length ≤ maxLen := by simp only [List.length_cons, List.length_nil]; unfold maxLen; omega
        have hby : (Y.length + [(v : Int)].length) * 8 ≤ 140737488355328 := by simp only [List.length_cons, List.length_nil]; omega
        have HH7 := Lib.hid (And.intro h63 hby)
        clear hb HSH hz5 hl5 h63 hby
        go_wp2_with (at_builtin; refine wp_app (T := tInt) rfl _ _ 94 rfl iI (.int .i64 0) 8 Tryz.underlying94 hiI hiI0 hiI1 hiI2 rfl (by decide) int_one w3.heap.size vq Y rfl HQ6.out ⟨w6.heap.size, 0, none⟩ 1 [(v : Int)] rfl HSL7.out HH7.out.1 HH7.out.2 HB7.out.size ?_; intro v8 w8 hown hg hnil hat; have HQ8 := Lib.hid hown; have HB8 := Lib.hid (Below.grown HB7.out hg HB7.out.size (fun k e => (HQ6.out.lt k e).1)); have HO8 := Lib.hid (HO6.out.far int_Free hg HP5.out.symm); have HP8 := Lib.hid (HP5.out.symm.stepF HO6.out hat); clear hown hg hnil hat)
        go_roundw
        case rel => exact ⟨n + 1, _, _, rfl, rfl, by omega, by go_num, by rw [HX.out]; exact HO8.out, by rw [HN1.out]; exact HQ8.out, HP8.out, HB8.out⟩
        case measure => simp [Go.RowKit.intOf]; omega
    · have HL : Hid (tl.take n = tl) := Lib.hid (take_all hn1 hlt)
      have ho := HO.out
      have hq := HQ.out
      rw [HL.out] at ho hq
      have hx1 : (s :: tl.map (·.2)).length ≤ 801 := by rw [List.length_cons, List.length_map]; omega
      have hx2 : (s :: (tl.filter (shrB r)).map (·.2)).length ≤ 801 := by
        have := List.length_filter_le (shrB r) tl
        rw [List.length_cons, List.length_map]
        omega
      obtain ⟨X, hX⟩ : ∃ X, s :: tl.map (·.2) = X := ⟨_, rfl⟩
      obtain ⟨Y, hY⟩ : ∃ Y, s :: (tl.filter (shrB r)).map (·.2) = Y := ⟨_, rfl⟩
      have had := HAD.out
      have hbd := HBD.out
      rw [hX] at ho hx1 had
      rw [hY] at hq hx2 hbd
      have HAD2 := Lib.hid had
      have HBD2 := Lib.hid hbd
      have HQ2 := Lib.hid hq
      obtain ⟨oa, oc, rfl, -, -, hos⟩ := ho.slice
      have HOS := Lib.hid hos
      have HSR := Lib.hid (HS3.out.call HB.out)
      have HZR := Lib.hid (blk_below HZ3.out HB.out)
      have HTR3 := Lib.hid (HT3.out.below HB.out)
      have HSZR := Lib.hid (And.intro HSZ3.out.1 (Nat.le_trans HSZ3.out.2 HB.out.size))
      have hx1' : X.length ≤ 100000 := by omega
      clear hX hY ho hq had hbd hos HAD HBD HO HQ HPA HL hx1
      go_wp2_with fail
      refine (madd_is X oa oc _ HOS.out hx1' HAD2.out).mono ?_
      rintro en4 w4 ⟨rfl, hb⟩
      have HS4 := Lib.hid (HSR.out.call hb)
      have HZ4 := Lib.hid (blk_below HZR.out hb)
      have HT4 := Lib.hid (HTR3.out.below hb)
      have HQ4 := Lib.hid ((HQ2.out.below hb).alloc (.cells #[.int .i64 (-aa)] 3))
      have HB4 := Lib.hid (belows_then HB.out HB.out.size hb)
      have HSZ4 := Lib.hid (And.intro HSZR.out.1 (Nat.le_trans HSZR.out.2 hb.size))
      have hafit : fitsB aa = true := by have := addM_fit X; rw [HAD2.out] at this; exact this
      have habd : -1000000000000000 ≤ aa ∧ aa ≤ 1000000000000000 := by simpa [fitsB] using hafit
      have hai : I64 (-aa) := by unfold I64 Lit.wf; simp [IntKind.min, IntKind.max, IntKind.bits, IntKind.signed]; omega
      have HAI := Lib.hid hai
      have HABD := Lib.hid habd
      have HSL4 : Hid (Sl tInt (w4.alloc (.cells #[.int .i64 (-aa)] 3)) (fun kk => some kk ≠ vq.ownBlock ∧ kk < (w4.alloc (.cells #[.int .i64 (-aa)] 3)).heap.size) (some ⟨w4.heap.size, 0, none⟩) [-aa]) :=
        Lib.hid (sl_oneI (blk_new w4 _) ⟨fun e => by have := ((HQ2.out.below hb).lt _ e.symm).2; omega, by simp⟩ hai)
      have HB4a := Lib.hid (HB4.out.alloc HB4.out.size (.cells #[.int .i64 (-aa)] 3))
      have h63 : Y.length + [(-aa : Int)].length ≤ maxLen := by simp only [List.length_cons, List.length_nil]; unfold maxLen; omega
      have hby : (Y.length + [(-aa : Int)].length) * 8 ≤ 140737488355328 := by simp only [List.length_cons, List.length_nil]; omega
      have HH4 := Lib.hid (And.intro h63 hby)
      obtain ⟨Z, hZ⟩ : ∃ Z, Y ++ [-aa] = Z := ⟨_, rfl⟩
      have hzl : Z.length ≤ 100000 := by rw [← hZ, List.length_append, List.length_cons, List.length_nil]; omega
      have HZZ := Lib.hid hZ
      have hbd := HBD2.out
      rw [hZ] at hbd
      have HBD3 := Lib.hid hbd
      clear hb hai hafit hZ h63 hby hbd HSR HZR HTR3 HOS HBD2 HSZR hx2
      cases q1 : ea == 0
      · have q2 : (ea != 0) = true := by simpa using q1
        have HR : Hid (mE = ea) := Lib.hid (by rw [HE.out]; unfold memN; rw [if_neg (by decide)]; rw [if_neg (by decide)]; rw [if_neg (by decide)]; rw [if_pos q2])
        have hne : ea ≠ 0 := by simpa using q1
        have HNE := Lib.hid hne
        clear q1 hne
        go_wp2_with fail
        go_ret
        rw [HR.out]
        exact ⟨rfl, HS4.out.bel, fun h => absurd h HNE.out⟩
      obtain rfl : ea = 0 := by simpa using q1
      clear q1
      go_wp2_with (at_builtin; refine wp_app (T := tInt) rfl _ _ 94 rfl iI (.int .i64 0) 8 Tryz.underlying94 hiI hiI0 hiI1 hiI2 rfl (by decide) int_one w3.heap.size vq Y rfl HQ4.out ⟨w4.heap.size, 0, none⟩ 1 [(-aa : Int)] rfl HSL4.out HH4.out.1 HH4.out.2 HB4a.out.size ?_; intro v5 w5 hown hg hnil hat; have HB5 := Lib.hid (Below.grown HB4a.out hg HB4a.out.size (fun k e => (HQ4.out.lt k e).1)); rw [HZZ.out] at hown; obtain ⟨qa, qc, rfl, -, -, hqs⟩ := hown.slice; have HQS := Lib.hid hqs; clear hown hg hnil hat hqs)
      refine (madd_is Z qa qc _ HQS.out hzl HBD3.out).mono ?_
      rintro en6 w6 ⟨rfl, hb⟩
      have HB6 := Lib.hid (belows_then HB5.out HB5.out.size hb)
      have HS6 := Lib.hid (HS3.out.call HB6.out)
      have HZ6 := Lib.hid (blk_below HZ3.out HB6.out)
      have HT6 := Lib.hid (HT3.out.below HB6.out)
      have HSZ6 := Lib.hid (And.intro HSZ3.out.1 (Nat.le_trans HSZ3.out.2 HB6.out.size))
      have hbfit : fitsB bb = true := by have := addM_fit Z; rw [HBD3.out] at this; exact this
      have HBF := Lib.hid hbfit
      clear hb hbfit HS4 HZ4 HT4 HSZ4 HQ2 HB4 HB4a HQS HQ4 HSL4
      cases q1 : eb == 0
      · have q2 : (eb != 0) = true := by simpa using q1
        have HR : Hid (mE = eb) := Lib.hid (by rw [HE.out]; unfold memN; rw [if_neg (by decide)]; rw [if_neg (by decide)]; rw [if_neg (by decide)]; rw [if_neg (by decide)]; rw [if_pos q2])
        have hne : eb ≠ 0 := by simpa using q1
        have HNE := Lib.hid hne
        clear q1 hne
        go_wp2_with fail
        go_ret
        rw [HR.out]
        exact ⟨rfl, HS6.out.bel, fun h => absurd h HNE.out⟩
      obtain rfl : eb = 0 := by simpa using q1
      clear q1
      have hzc := blk_cells HZ6.out
      have hzl6 := blk_lt HZ6.out
      have HSM := Lib.hid (fun V => by
        have := scale_tenK HBF.out (num := 10000 - sh) (by omega) (by omega) V
        rw [HXD.out] at this
        exact this)
      go_wp2_with fail
      refine (HSM.out _).mono ?_
      rintro en7 w7 ⟨rfl, hb⟩
      have HB7 := Lib.hid (belows_then HB6.out HB6.out.size hb)
      have HS7 := Lib.hid (HS3.out.call HB7.out)
      have HT7 := Lib.hid (HT3.out.below HB7.out)
      have HSZ7 := Lib.hid (And.intro HSZ3.out.1 (Nat.le_trans HSZ3.out.2 HB7.out.size))
      have hxfit : fitsB x = true := by have := scaleT_fit (a := bb) (n := 10000 - sh) (d := 10000); rw [HXD.out] at this; exact this
      have HXF := Lib.hid hxfit
      clear hb hxfit HS6 HZ6 HT6 HSZ6 hzc hzl6 HSM HB6 HB5
      cases q1 : ex == 0
      · have q2 : (ex != 0) = true := by simpa using q1
        have HR : Hid (mE = ex) := Lib.hid (by rw [HE.out]; unfold memN; rw [if_neg (by decide)]; rw [if_neg (by decide)]; rw [if_neg (by decide)]; rw [if_neg (by decide)]; rw [if_neg (by decide)])
        have hne : ex ≠ 0 := by simpa using q1
        have HNE := Lib.hid hne
        clear q1 hne
        go_wp2_with fail
        go_ret
        rw [HR.out]
        exact ⟨rfl, HS7.out.bel, fun h => absurd h HNE.out⟩
      obtain rfl : ex = 0 := by simpa using q1
      clear q1
      go_wp2_with fail
      have hcc := blk_lt HS7.out.cell
      have HCC : Hid (R2C w7 W w0.heap.size x4 x5) := Lib.hid ⟨hcc, HS7.out.bel.size, fun k hk => (HS7.out.o4.lt k hk).2, fun k hk => (HS7.out.o5.lt k hk).2, fun e => HS7.out.o4.off HS7.out.cell (by decide) _ e rfl, fun e => HS7.out.o5.off HS7.out.cell (by decide) _ e rfl⟩
      have HST : Hid (∀ u1 u2 u3 u4 : Value, R2I tBalV tInt 96 (fun y z => wkC c g p ma ms mc y z x6 x7) w7 W w0.heap.size x4 x5 vs L5 (.slice ta tl.length tc) (-aa) (.slice ta tl.length tc) (.int .i64 (-aa)) false false false false false false u1 u2 u3 u4 w7.drew) :=
        Lib.hid (fun u1 u2 u3 u4 => ⟨(But.refl _ w7).drew, HS7.out.cell, fun h => (by cases h), fun h => (by cases h), HS7.out.o4.keep (w' := w7.drew) (Nat.le_refl _) (fun _ _ => rfl), HS7.out.o5.keep (w' := w7.drew) (Nat.le_refl _) (fun _ _ => rfl), fun h => (by cases h), fun h => (by cases h), HS7.out.o4.diff HS7.out.o5 (by decide)⟩)
      have HNEG : Hid (∀ V : World, (Op.unary .neg (.int .i64 aa)).run Tryz.prog V = .ok (.int .i64 (-aa)) V) := Lib.hid (fun V => neg_run HABD.out V)
      have HBA : Hid (∀ V : World, (Instr.buildSlice 40 1 #[(0, .slice ta tl.length tc)]).run Tryz.prog V = .ok (.slice (some ⟨V.heap.size, 0, none⟩) 1 1) (V.alloc (.cells #[.slice ta tl.length tc] 49))) := Lib.hid (fun V => buildV _ _ _ V)
      have HBB : Hid (∀ V : World, (Instr.buildSlice 94 1 #[(0, .int .i64 (-aa))]).run Tryz.prog V = .ok (.slice (some ⟨V.heap.size, 0, none⟩) 1 1) (V.alloc (.cells #[.int .i64 (-aa)] 3))) := Lib.hid (fun V => buildI _ V)
      have HVA : Hid (∀ {V : World} {F : Nat → Prop} {b : Nat}, V.heap[b]? = some (.cells #[.slice ta tl.length tc] 49 (0, 0)) → F b → Sl tBalV V F (some ⟨b, 0, none⟩) [.slice ta tl.length tc]) := Lib.hid (fun h1 h2 => sl_oneV h1 h2)
      have HVIB : Hid (∀ {V : World} {F : Nat → Prop} {b : Nat}, V.heap[b]? = some (.cells #[.int .i64 (-aa)] 3 (0, 0)) → F b → Sl tInt V F (some ⟨b, 0, none⟩) [-aa]) := Lib.hid (fun h1 h2 => sl_oneI h1 h2 HAI.out)
      have HCA : Hid (∀ y z : Value, (wkC c g p ma ms mc y z x6 x7)[4]? = some y) := Lib.hid (fun y z => rfl)
      have HCB : Hid (∀ y z : Value, (wkC c g p ma ms mc y z x6 x7)[5]? = some z) := Lib.hid (fun y z => rfl)
      have HSZ : Hid (∀ y z : Value, 8 ≤ (wkC c g p ma ms mc y z x6 x7).size) := Lib.hid (fun y z => Nat.le_refl _)
      have HIA : Hid (∀ x y z : Value, (wkC c g p ma ms mc x z x6 x7).setIfInBounds 4 y = wkC c g p ma ms mc y z x6 x7) := Lib.hid (fun x y z => rfl)
      have HIB : Hid (∀ x y z : Value, (wkC c g p ma ms mc z x x6 x7).setIfInBounds 5 y = wkC c g p ma ms mc z y x6 x7) := Lib.hid (fun x y z => rfl)
      have HLA : Hid (vs.length + [(Value.slice ta tl.length tc)].length ≤ maxLen ∧ (vs.length + [(Value.slice ta tl.length tc)].length) * 24 ≤ 140737488355328) := Lib.hid (by rw [List.length_cons, List.length_nil]; unfold maxLen; omega)
      have HLB : Hid (L5.length + [(-aa : Int)].length ≤ maxLen ∧ (L5.length + [(-aa : Int)].length) * 8 ≤ 140737488355328) := Lib.hid (by rw [List.length_cons, List.length_nil]; unfold maxLen; omega)
      refine abs_act (fun a0 => a0.tmps.size = 147 ∧ a0.defers = [] ∧ a0.eval (.tmp 0) = ptr W ∧ a0.eval (.tmp 5) = .slice ta tl.length tc ∧ a0.eval (.tmp 6) = .int .i64 s ∧ a0.eval (.tmp 12) = .int .i64 aa ∧ a0.eval (.tmp 14) = .int .i64 x) ?_ ⟨rfl, rfl, rfl, rfl, rfl, rfl, rfl⟩
      rintro a0 ⟨es, ed, e0, eA, e6, eB, e14⟩
      have ES := Lib.hid es
      have ED := Lib.hid ed
      have E0 := Lib.hid e0
      have EA := Lib.hid eA
      have E6 := Lib.hid e6
      have EB := Lib.hid eB
      have E14 := Lib.hid e14
      clear es ed e0 eA e6 eB e14 hcc
      obtain ⟨RST⟩ : Nonempty (∀ u1 u2 u3 u4 : Value, R2I tBalV tInt 96 (fun y z => wkC c g p ma ms mc y z x6 x7) w7 W w0.heap.size x4 x5 vs L5 (.slice ta tl.length tc) (-aa) (.slice ta tl.length tc) (.int .i64 (-aa)) false false false false false false u1 u2 u3 u4 w7.drew) := ⟨HST.out⟩
      refine wp_region_inv (by kernel_rfl) (by kernel_rfl) (by kernel_rfl) (Rg27 a0 (fun y z => wkC c g p ma ms mc y z x6 x7) w7 W w0.heap.size x4 x5 vs L5 (.slice ta tl.length tc) (-aa) (.slice ta tl.length tc) (.int .i64 (-aa)) (.int .i64 aa)) (fun d d' a w h H => Rg27.congr h H) ?_ ?_ ?_
      · exact ⟨ES.out, ED.out, fun j hj => rfl, fun h => (by cases h), fun h => (by cases h), fun h => (by cases h), fun h => (by cases h), fun h => (by cases h), fun h => (by cases h), fun h => (by cases h), fun h => (by cases h), fun h => (by cases h), fun h => (by cases h), fun h => (by cases h), fun h => (by cases h), fun h => (by cases h), fun h => (by cases h), fun h => (by cases h), fun h => (by cases h), fun h => (by cases h), RST _ _ _ _, fun h => (by cases h), fun h => (by cases h), fun h => (by cases h), fun h => (by cases h)⟩
      · intro d a8 w8 hd H
        have hd2 := H.dyn
        rw [hd 7 (by decide), hd 8 (by decide), hd 15 (by decide), hd 16 (by decide), hd 19 (by decide), hd 22 (by decide)] at hd2
        obtain ⟨y4, hy4⟩ : ∃ y, a8.eval (.tmp 114) = y := ⟨_, rfl⟩
        obtain ⟨y5, hy5⟩ : ∃ y, a8.eval (.tmp 122) = y := ⟨_, rfl⟩
        rw [hy4, hy5] at hd2
        have HS8 := Lib.hid (HS7.out.step1 (HT7.out.mono HSZ7.out.1) HAP.out hd2)
        have ES8 := Lib.hid H.sz
        have ED8 := Lib.hid H.df
        have E08 := Lib.hid ((H.old 0 (.inl (by decide))).trans E0.out)
        have EA8 := Lib.hid ((H.old 6 (.inl (by decide))).trans E6.out)
        have EB8 := Lib.hid ((H.old 14 (.inl (by decide))).trans E14.out)
        clear hd H hd2 hy4 hy5 HS7 HT7 HSZ7 ES ED E0 EA E6 EB E14 HCC HST HNEG HBA HBB HVA HVIB HCA HCB HSZ HIA HIB HLA HLB HAP HB7
        go_wp2_with fail
        have hcc := blk_lt HS8.out.cell
        have HCC : Hid (R2C w8 W w0.heap.size x6 x7) := Lib.hid ⟨hcc, HS8.out.bel.size, fun k hk => (HS8.out.o6.lt k hk).2, fun k hk => (HS8.out.o7.lt k hk).2, fun e => HS8.out.o6.off HS8.out.cell (by decide) _ e rfl, fun e => HS8.out.o7.off HS8.out.cell (by decide) _ e rfl⟩
        have RST : ∀ u1 u2 u3 u4 : Value, R2I tInt tInt 96 (fun y z => wkC c g p ma ms mc y4 y5 y z) w8 W w0.heap.size x6 x7 L6 L7 s x (.int .i64 s) (.int .i64 x) false false false false false false u1 u2 u3 u4 w8.drew :=
          fun u1 u2 u3 u4 => ⟨(But.refl _ w8).drew, HS8.out.cell, fun h => (by cases h), fun h => (by cases h), HS8.out.o6.keep (w' := w8.drew) (Nat.le_refl _) (fun _ _ => rfl), HS8.out.o7.keep (w' := w8.drew) (Nat.le_refl _) (fun _ _ => rfl), fun h => (by cases h), fun h => (by cases h), HS8.out.a67⟩
        have hxi : I64 x := by
          have : -1000000000000000 ≤ x ∧ x ≤ 1000000000000000 := by simpa [fitsB] using HXF.out
          unfold I64 Lit.wf; simp [IntKind.min, IntKind.max, IntKind.bits, IntKind.signed]; omega
        have HBA : Hid (∀ V : World, (Instr.buildSlice 94 1 #[(0, .int .i64 s)]).run Tryz.prog V = .ok (.slice (some ⟨V.heap.size, 0, none⟩) 1 1) (V.alloc (.cells #[.int .i64 s] 3))) := Lib.hid (fun V => buildI _ V)
        have HBB : Hid (∀ V : World, (Instr.buildSlice 94 1 #[(0, .int .i64 x)]).run Tryz.prog V = .ok (.slice (some ⟨V.heap.size, 0, none⟩) 1 1) (V.alloc (.cells #[.int .i64 x] 3))) := Lib.hid (fun V => buildI _ V)
        have HVIA : Hid (∀ {V : World} {F : Nat → Prop} {b : Nat}, V.heap[b]? = some (.cells #[.int .i64 s] 3 (0, 0)) → F b → Sl tInt V F (some ⟨b, 0, none⟩) [s]) := Lib.hid (fun h1 h2 => sl_oneI h1 h2 HSI.out)
        have HVIB : Hid (∀ {V : World} {F : Nat → Prop} {b : Nat}, V.heap[b]? = some (.cells #[.int .i64 x] 3 (0, 0)) → F b → Sl tInt V F (some ⟨b, 0, none⟩) [x]) := Lib.hid (fun h1 h2 => sl_oneI h1 h2 hxi)
        have HCA : Hid (∀ y z : Value, (wkC c g p ma ms mc y4 y5 y z)[6]? = some y) := Lib.hid (fun y z => rfl)
        have HCB : Hid (∀ y z : Value, (wkC c g p ma ms mc y4 y5 y z)[7]? = some z) := Lib.hid (fun y z => rfl)
        have HSZ : Hid (∀ y z : Value, 8 ≤ (wkC c g p ma ms mc y4 y5 y z).size) := Lib.hid (fun y z => Nat.le_refl _)
        have HIA : Hid (∀ x y z : Value, (wkC c g p ma ms mc y4 y5 x z).setIfInBounds 6 y = wkC c g p ma ms mc y4 y5 y z) := Lib.hid (fun x y z => rfl)
        have HIB : Hid (∀ x y z : Value, (wkC c g p ma ms mc y4 y5 z x).setIfInBounds 7 y = wkC c g p ma ms mc y4 y5 z y) := Lib.hid (fun x y z => rfl)
        have HLA : Hid (L6.length + [(s : Int)].length ≤ maxLen ∧ (L6.length + [(s : Int)].length) * 8 ≤ 140737488355328) := Lib.hid (by rw [List.length_cons, List.length_nil]; unfold maxLen; omega)
        have HLB : Hid (L7.length + [(x : Int)].length ≤ maxLen ∧ (L7.length + [(x : Int)].length) * 8 ≤ 140737488355328) := Lib.hid (by rw [List.length_cons, List.length_nil]; unfold maxLen; omega)
        obtain ⟨ES, ED, E0, EA, EB⟩ : Hid (a8.tmps.size = 147) ∧ Hid (a8.defers = []) ∧ Hid (a8.eval (.tmp 0) = ptr W) ∧ Hid (a8.eval (.tmp 6) = .int .i64 s) ∧ Hid (a8.eval (.tmp 14) = .int .i64 x) := ⟨ES8, ED8, E08, EA8, EB8⟩
        clear ES8 ED8 E08 EA8 EB8 hcc
        refine wp_region_inv (by kernel_rfl) (by kernel_rfl) (by kernel_rfl) (Rg28 a8 (fun y z => wkC c g p ma ms mc y4 y5 y z) w8 W w0.heap.size x6 x7 L6 L7 s x (.int .i64 s) (.int .i64 x) (.int .i64 x)) (fun d d' a w h H => Rg28.congr h H) ?_ ?_ ?_
        · exact ⟨ES.out, ED.out, fun j hj => rfl, fun h => (by cases h), fun h => (by cases h), fun h => (by cases h), fun h => (by cases h), fun h => (by cases h), fun h => (by cases h), fun h => (by cases h), fun h => (by cases h), fun h => (by cases h), fun h => (by cases h), fun h => (by cases h), fun h => (by cases h), fun h => (by cases h), fun h => (by cases h), fun h => (by cases h), fun h => (by cases h), RST _ _ _ _, fun h => (by cases h), fun h => (by cases h), fun h => (by cases h), fun h => (by cases h)⟩
        · intro d a9 w9 hd H
          have hd2 := H.dyn
          rw [hd 7 (by decide), hd 8 (by decide), hd 14 (by decide), hd 15 (by decide), hd 18 (by decide), hd 21 (by decide)] at hd2
          have HS9 := Lib.hid (HS8.out.step2 hd2)
          have HSZ9 := Lib.hid H.sz
          have HDF9 := Lib.hid H.df
          have HRR : Hid (mE = 0) := Lib.hid (by rw [HE.out]; rfl)
          have HPP := Lib.hid (HP.out (by trivial))
          clear hd H hd2
          go_wp2_with fail
          have hsz := HSZ9.out
          refine bodyPost_ret (v := .int .i64 0) (by simp [results, Tryz.results29, go_sem, hsz] <;> rfl) HDF9.out ?_
          rw [HRR.out, HPP.out]
          exact ⟨rfl, HS9.out.bel, fun _ => ⟨_, _, _, _, _, HS9.out⟩⟩
        · skip
          refine ⟨?_, ?_, ?_, ?_, ?_, ?_, ?_, ?_, ?_, ?_, ?_, ?_, ?_, ?_, ?_, ?_, ?_, ?_, ?_, ?_, ?_, ?_, trivial⟩
          · intro d a w H hk hdep
            refine op_move (.tmp 0) rfl ((H.old 0 (by omega)).trans E0.out) ?_
            exact ⟨put_size.trans H.sz, put_defers.trans H.df, fun j hj => (put_ne (by omega)).trans (H.old j hj), fun _ => put_same (by rw [H.sz]; decide), fun h => (put_ne (by decide)).trans (H.f1 h), fun h => (put_ne (by decide)).trans (H.f2 h), fun h => (put_ne (by decide)).trans (H.f3 h), fun h => (put_ne (by decide)).trans (H.f4 h), fun h => (put_ne (by decide)).trans (H.f5 h), fun h => (put_ne (by decide)).trans (H.f6 h), fun h => (put_ne (by decide)).trans (H.f9 h), fun h => (put_ne (by decide)).trans (H.f10 h), fun h => (put_ne (by decide)).trans (H.f11 h), fun h => (put_ne (by decide)).trans (H.f12 h), fun h => (put_ne (by decide)).trans (H.f13 h), fun h => (put_ne (by decide)).trans (H.f16 h), fun h => (put_ne (by decide)).trans (H.f17 h), fun h => (put_ne (by decide)).trans (H.f19 h), fun h => (put_ne (by decide)).trans (H.f20 h), (H.dyn.congr (put_ne (by decide)) (put_ne (by decide)) (put_ne (by decide)) (put_ne (by decide))), H.qA, H.qB, H.qS, H.qT⟩
          · intro d a w H hk hdep
            refine op_move (.tmp 0) rfl ((H.old 0 (by omega)).trans E0.out) ?_
            exact ⟨put_size.trans H.sz, put_defers.trans H.df, fun j hj => (put_ne (by omega)).trans (H.old j hj), fun h => (put_ne (by decide)).trans (H.f0 h), fun _ => put_same (by rw [H.sz]; decide), fun h => (put_ne (by decide)).trans (H.f2 h), fun h => (put_ne (by decide)).trans (H.f3 h), fun h => (put_ne (by decide)).trans (H.f4 h), fun h => (put_ne (by decide)).trans (H.f5 h), fun h => (put_ne (by decide)).trans (H.f6 h), fun h => (put_ne (by decide)).trans (H.f9 h), fun h => (put_ne (by decide)).trans (H.f10 h), fun h => (put_ne (by decide)).trans (H.f11 h), fun h => (put_ne (by decide)).trans (H.f12 h), fun h => (put_ne (by decide)).trans (H.f13 h), fun h => (put_ne (by decide)).trans (H.f16 h), fun h => (put_ne (by decide)).trans (H.f17 h), fun h => (put_ne (by decide)).trans (H.f19 h), fun h => (put_ne (by decide)).trans (H.f20 h), (H.dyn.congr (put_ne (by decide)) (put_ne (by decide)) (put_ne (by decide)) (put_ne (by decide))), H.qA, H.qB, H.qS, H.qT⟩
          · intro d a w H hk hdep
            refine op_move (.tmp 0) rfl ((H.old 0 (by omega)).trans E0.out) ?_
            exact ⟨put_size.trans H.sz, put_defers.trans H.df, fun j hj => (put_ne (by omega)).trans (H.old j hj), fun h => (put_ne (by decide)).trans (H.f0 h), fun h => (put_ne (by decide)).trans (H.f1 h), fun _ => put_same (by rw [H.sz]; decide), fun h => (put_ne (by decide)).trans (H.f3 h), fun h => (put_ne (by decide)).trans (H.f4 h), fun h => (put_ne (by decide)).trans (H.f5 h), fun h => (put_ne (by decide)).trans (H.f6 h), fun h => (put_ne (by decide)).trans (H.f9 h), fun h => (put_ne (by decide)).trans (H.f10 h), fun h => (put_ne (by decide)).trans (H.f11 h), fun h => (put_ne (by decide)).trans (H.f12 h), fun h => (put_ne (by decide)).trans (H.f13 h), fun h => (put_ne (by decide)).trans (H.f16 h), fun h => (put_ne (by decide)).trans (H.f17 h), fun h => (put_ne (by decide)).trans (H.f19 h), fun h => (put_ne (by decide)).trans (H.f20 h), (H.dyn.congr (put_ne (by decide)) (put_ne (by decide)) (put_ne (by decide)) (put_ne (by decide))), H.qA, H.qB, H.qS, H.qT⟩
          · intro d a w H hk hdep
            have e2 : d 2 = true := hdep ⟨2, .data⟩ (by simp) rfl
            refine op_nil (.tmp 129) ⟨W, 0, none⟩ rfl (H.f2 e2) ?_
            exact ⟨put_size.trans H.sz, put_defers.trans H.df, fun j hj => (put_ne (by omega)).trans (H.old j hj), fun h => (put_ne (by decide)).trans (H.f0 h), fun h => (put_ne (by decide)).trans (H.f1 h), fun h => (put_ne (by decide)).trans (H.f2 h), fun _ => put_same (by rw [H.sz]; decide), fun h => (put_ne (by decide)).trans (H.f4 h), fun h => (put_ne (by decide)).trans (H.f5 h), fun h => (put_ne (by decide)).trans (H.f6 h), fun h => (put_ne (by decide)).trans (H.f9 h), fun h => (put_ne (by decide)).trans (H.f10 h), fun h => (put_ne (by decide)).trans (H.f11 h), fun h => (put_ne (by decide)).trans (H.f12 h), fun h => (put_ne (by decide)).trans (H.f13 h), fun h => (put_ne (by decide)).trans (H.f16 h), fun h => (put_ne (by decide)).trans (H.f17 h), fun h => (put_ne (by decide)).trans (H.f19 h), fun h => (put_ne (by decide)).trans (H.f20 h), (H.dyn.congr (put_ne (by decide)) (put_ne (by decide)) (put_ne (by decide)) (put_ne (by decide))), H.qA, H.qB, H.qS, H.qT⟩
          · intro d a w H hk hdep
            have e3 : d 3 = true := hdep ⟨3, .data⟩ (by simp) rfl
            refine op_field 96 6 (.tmp 130) ⟨W, 0, none⟩ rfl (H.f3 e3) (fieldW W 6 w (by decide)) ?_
            exact ⟨put_size.trans H.sz, put_defers.trans H.df, fun j hj => (put_ne (by omega)).trans (H.old j hj), fun h => (put_ne (by decide)).trans (H.f0 h), fun h => (put_ne (by decide)).trans (H.f1 h), fun h => (put_ne (by decide)).trans (H.f2 h), fun h => (put_ne (by decide)).trans (H.f3 h), fun _ => put_same (by rw [H.sz]; decide), fun h => (put_ne (by decide)).trans (H.f5 h), fun h => (put_ne (by decide)).trans (H.f6 h), fun h => (put_ne (by decide)).trans (H.f9 h), fun h => (put_ne (by decide)).trans (H.f10 h), fun h => (put_ne (by decide)).trans (H.f11 h), fun h => (put_ne (by decide)).trans (H.f12 h), fun h => (put_ne (by decide)).trans (H.f13 h), fun h => (put_ne (by decide)).trans (H.f16 h), fun h => (put_ne (by decide)).trans (H.f17 h), fun h => (put_ne (by decide)).trans (H.f19 h), fun h => (put_ne (by decide)).trans (H.f20 h), (H.dyn.congr (put_ne (by decide)) (put_ne (by decide)) (put_ne (by decide)) (put_ne (by decide))), H.qA, H.qB, H.qS, H.qT⟩
          · intro d a w H hk hdep
            have e4 : d 4 = true := hdep ⟨4, .data⟩ (by simp) rfl
            have hq : d 8 = false := by cases hq : d 8 with | false => rfl | true => exact absurd (H.qA hq).1 (by rw [hk]; decide)
            have hs : d 18 = false := by cases hs : d 18 with | false => rfl | true => exact absurd (H.qS hs).1 (by rw [hq]; decide)
            have hc := blk_cells H.dyn.cell 6
            rw [hs] at hc
            refine op_load 94 (.tmp 131) ⟨W, 6, none⟩ rfl (H.f4 e4) (loadW 6 W x6 w (hc.trans (HCA.out _ _))).1 ?_
            exact ⟨put_size.trans H.sz, put_defers.trans H.df, fun j hj => (put_ne (by omega)).trans (H.old j hj), fun h => (put_ne (by decide)).trans (H.f0 h), fun h => (put_ne (by decide)).trans (H.f1 h), fun h => (put_ne (by decide)).trans (H.f2 h), fun h => (put_ne (by decide)).trans (H.f3 h), fun h => (put_ne (by decide)).trans (H.f4 h), fun _ => put_same (by rw [H.sz]; decide), fun h => (put_ne (by decide)).trans (H.f6 h), fun h => (put_ne (by decide)).trans (H.f9 h), fun h => (put_ne (by decide)).trans (H.f10 h), fun h => (put_ne (by decide)).trans (H.f11 h), fun h => (put_ne (by decide)).trans (H.f12 h), fun h => (put_ne (by decide)).trans (H.f13 h), fun h => (put_ne (by decide)).trans (H.f16 h), fun h => (put_ne (by decide)).trans (H.f17 h), fun h => (put_ne (by decide)).trans (H.f19 h), fun h => (put_ne (by decide)).trans (H.f20 h), (H.dyn.congr (put_ne (by decide)) (put_ne (by decide)) (put_ne (by decide)) (put_ne (by decide))), fun h => ⟨rfl, (H.qA h).2⟩, H.qB, H.qS, H.qT⟩
          · intro d a w H hk hdep
            refine op_move (.tmp 6) rfl ((H.old 6 (by omega)).trans EA.out) ?_
            exact ⟨put_size.trans H.sz, put_defers.trans H.df, fun j hj => (put_ne (by omega)).trans (H.old j hj), fun h => (put_ne (by decide)).trans (H.f0 h), fun h => (put_ne (by decide)).trans (H.f1 h), fun h => (put_ne (by decide)).trans (H.f2 h), fun h => (put_ne (by decide)).trans (H.f3 h), fun h => (put_ne (by decide)).trans (H.f4 h), fun h => (put_ne (by decide)).trans (H.f5 h), fun _ => put_same (by rw [H.sz]; decide), fun h => (put_ne (by decide)).trans (H.f9 h), fun h => (put_ne (by decide)).trans (H.f10 h), fun h => (put_ne (by decide)).trans (H.f11 h), fun h => (put_ne (by decide)).trans (H.f12 h), fun h => (put_ne (by decide)).trans (H.f13 h), fun h => (put_ne (by decide)).trans (H.f16 h), fun h => (put_ne (by decide)).trans (H.f17 h), fun h => (put_ne (by decide)).trans (H.f19 h), fun h => (put_ne (by decide)).trans (H.f20 h), (H.dyn.congr (put_ne (by decide)) (put_ne (by decide)) (put_ne (by decide)) (put_ne (by decide))), H.qA, H.qB, H.qS, H.qT⟩
          · intro d a w H hk hdep
            have e6 : d 6 = true := hdep ⟨6, .data⟩ (by simp) rfl
            refine op_build1 94 (.tmp 133) (.int .i64 s) rfl (H.f6 e6) (HBA.out w) ?_
            exact ⟨put_size.trans H.sz, put_defers.trans H.df, fun j hj => (put_ne (by omega)).trans (H.old j hj), fun h => (put_ne (by decide)).trans (H.f0 h), fun h => (put_ne (by decide)).trans (H.f1 h), fun h => (put_ne (by decide)).trans (H.f2 h), fun h => (put_ne (by decide)).trans (H.f3 h), fun h => (put_ne (by decide)).trans (H.f4 h), fun h => (put_ne (by decide)).trans (H.f5 h), fun h => (put_ne (by decide)).trans (H.f6 h), fun h => (put_ne (by decide)).trans (H.f9 h), fun h => (put_ne (by decide)).trans (H.f10 h), fun h => (put_ne (by decide)).trans (H.f11 h), fun h => (put_ne (by decide)).trans (H.f12 h), fun h => (put_ne (by decide)).trans (H.f13 h), fun h => (put_ne (by decide)).trans (H.f16 h), fun h => (put_ne (by decide)).trans (H.f17 h), fun h => (put_ne (by decide)).trans (H.f19 h), fun h => (put_ne (by decide)).trans (H.f20 h), ((H.dyn.allocA).congr (put_same (by rw [H.sz]; decide)) (put_ne (by decide)) (put_ne (by decide)) (put_ne (by decide))), fun h => ⟨(H.qA h).1, rfl⟩, fun h => ⟨(H.qB h).1, (H.qB h).2.1, (H.qB h).2.2⟩, H.qS, H.qT⟩
          · intro d a w H hk hdep
            have e5 : d 5 = true := hdep ⟨5, .data⟩ (by simp) rfl
            have e7 : d 7 = true := hdep ⟨7, .data⟩ (by simp) rfl
            have hq : d 8 = false := hk
            have hB : d 15 = false := by cases hB : d 15 with | false => rfl | true => exact absurd (H.qB hB).2.2 (by rw [hk]; decide)
            have hs0 : d 18 = false := by cases hs : d 18 with | false => rfl | true => exact absurd (H.qS hs).2 (by rw [hB]; decide)
            have hs1 : d 21 = false := by cases hs : d 21 with | false => rfl | true => exact absurd (H.qT hs) (by rw [hs0]; decide)
            have hr := H.dyn.rA
            rw [hk] at hr
            simp only [Bool.false_eq_true, if_false] at hr
            obtain ⟨b, hb1, hb2, hb3⟩ := H.dyn.bA e7
            have hsl : Sl tInt w (fun k => some k ≠ (x6).ownBlock ∧ k < w.heap.size) (some ⟨b, 0, none⟩) [s] := HVIA.out hb3 ⟨fun e => by have := HCC.out.lA b e.symm; omega, blk_lt hb3⟩
            refine op_app (T := tInt) rfl (.tmp 132) (.tmp 134) 94 rfl iI (.int .i64 0) 8 Tryz.underlying94 hiI hiI0 hiI1 hiI2 rfl (by decide) int_one w0.heap.size x6 L6 (H.f5 e5) hr ⟨b, 0, none⟩ 1 [s] hb1 hsl (HLA.out.1) (HLA.out.2) (Nat.le_trans HCC.out.bl H.dyn.size) ?_
            intro v9 w9 hown hg hat
            have hd := H.dyn
            rw [show d 8 = false from hk, hB, hs0] at hd
            have hd2 := R2I.appA HCC.out int_Free hd hown hg hat
            have hd3 : R2I tInt tInt 96 (fun y z => wkC c g p ma ms mc y4 y5 y z) w8 W w0.heap.size x6 x7 L6 L7 s x (.int .i64 s) (.int .i64 x) (updD d 8 7) (updD d 8 8) (updD d 8 14) (updD d 8 15) (updD d 8 18) (updD d 8 21) (a.eval (.tmp 134)) v9 (a.eval (.tmp 141)) (a.eval (.tmp 142)) w9 := by
              rw [show updD d 8 7 = d 7 from rfl, show updD d 8 8 = true from rfl, show updD d 8 14 = d 14 from rfl, show updD d 8 15 = false from hB, show updD d 8 18 = false from hs0, show updD d 8 21 = d 21 from rfl]
              exact hd2
            exact ⟨put_size.trans H.sz, put_defers.trans H.df, fun j hj => (put_ne (by omega)).trans (H.old j hj), fun h => (put_ne (by decide)).trans (H.f0 h), fun h => (put_ne (by decide)).trans (H.f1 h), fun h => (put_ne (by decide)).trans (H.f2 h), fun h => (put_ne (by decide)).trans (H.f3 h), fun h => (put_ne (by decide)).trans (H.f4 h), fun h => (put_ne (by decide)).trans (H.f5 h), fun h => (put_ne (by decide)).trans (H.f6 h), fun h => (put_ne (by decide)).trans (H.f9 h), fun h => (put_ne (by decide)).trans (H.f10 h), fun h => (put_ne (by decide)).trans (H.f11 h), fun h => (put_ne (by decide)).trans (H.f12 h), fun h => (put_ne (by decide)).trans (H.f13 h), fun h => (put_ne (by decide)).trans (H.f16 h), fun h => (put_ne (by decide)).trans (H.f17 h), fun h => (put_ne (by decide)).trans (H.f19 h), fun h => (put_ne (by decide)).trans (H.f20 h), (hd3.congr (put_ne (by decide)) (put_same (by rw [H.sz]; decide)) (put_ne (by decide)) (put_ne (by decide))), fun _ => ⟨e5, e7⟩, fun h => ⟨(H.qB h).1, (H.qB h).2.1, rfl⟩, fun h => ⟨rfl, (H.qS h).2⟩, H.qT⟩
          · intro d a w H hk hdep
            refine op_move (.tmp 0) rfl ((H.old 0 (by omega)).trans E0.out) ?_
            exact ⟨put_size.trans H.sz, put_defers.trans H.df, fun j hj => (put_ne (by omega)).trans (H.old j hj), fun h => (put_ne (by decide)).trans (H.f0 h), fun h => (put_ne (by decide)).trans (H.f1 h), fun h => (put_ne (by decide)).trans (H.f2 h), fun h => (put_ne (by decide)).trans (H.f3 h), fun h => (put_ne (by decide)).trans (H.f4 h), fun h => (put_ne (by decide)).trans (H.f5 h), fun h => (put_ne (by decide)).trans (H.f6 h), fun _ => put_same (by rw [H.sz]; decide), fun h => (put_ne (by decide)).trans (H.f10 h), fun h => (put_ne (by decide)).trans (H.f11 h), fun h => (put_ne (by decide)).trans (H.f12 h), fun h => (put_ne (by decide)).trans (H.f13 h), fun h => (put_ne (by decide)).trans (H.f16 h), fun h => (put_ne (by decide)).trans (H.f17 h), fun h => (put_ne (by decide)).trans (H.f19 h), fun h => (put_ne (by decide)).trans (H.f20 h), (H.dyn.congr (put_ne (by decide)) (put_ne (by decide)) (put_ne (by decide)) (put_ne (by decide))), H.qA, H.qB, H.qS, H.qT⟩
          · intro d a w H hk hdep
            have e9 : d 9 = true := hdep ⟨9, .data⟩ (by simp) rfl
            refine op_nil (.tmp 136) ⟨W, 0, none⟩ rfl (H.f9 e9) ?_
            exact ⟨put_size.trans H.sz, put_defers.trans H.df, fun j hj => (put_ne (by omega)).trans (H.old j hj), fun h => (put_ne (by decide)).trans (H.f0 h), fun h => (put_ne (by decide)).trans (H.f1 h), fun h => (put_ne (by decide)).trans (H.f2 h), fun h => (put_ne (by decide)).trans (H.f3 h), fun h => (put_ne (by decide)).trans (H.f4 h), fun h => (put_ne (by decide)).trans (H.f5 h), fun h => (put_ne (by decide)).trans (H.f6 h), fun h => (put_ne (by decide)).trans (H.f9 h), fun _ => put_same (by rw [H.sz]; decide), fun h => (put_ne (by decide)).trans (H.f11 h), fun h => (put_ne (by decide)).trans (H.f12 h), fun h => (put_ne (by decide)).trans (H.f13 h), fun h => (put_ne (by decide)).trans (H.f16 h), fun h => (put_ne (by decide)).trans (H.f17 h), fun h => (put_ne (by decide)).trans (H.f19 h), fun h => (put_ne (by decide)).trans (H.f20 h), (H.dyn.congr (put_ne (by decide)) (put_ne (by decide)) (put_ne (by decide)) (put_ne (by decide))), H.qA, H.qB, H.qS, H.qT⟩
          · intro d a w H hk hdep
            have e10 : d 10 = true := hdep ⟨10, .data⟩ (by simp) rfl
            refine op_field 96 7 (.tmp 137) ⟨W, 0, none⟩ rfl (H.f10 e10) (fieldW W 7 w (by decide)) ?_
            exact ⟨put_size.trans H.sz, put_defers.trans H.df, fun j hj => (put_ne (by omega)).trans (H.old j hj), fun h => (put_ne (by decide)).trans (H.f0 h), fun h => (put_ne (by decide)).trans (H.f1 h), fun h => (put_ne (by decide)).trans (H.f2 h), fun h => (put_ne (by decide)).trans (H.f3 h), fun h => (put_ne (by decide)).trans (H.f4 h), fun h => (put_ne (by decide)).trans (H.f5 h), fun h => (put_ne (by decide)).trans (H.f6 h), fun h => (put_ne (by decide)).trans (H.f9 h), fun h => (put_ne (by decide)).trans (H.f10 h), fun _ => put_same (by rw [H.sz]; decide), fun h => (put_ne (by decide)).trans (H.f12 h), fun h => (put_ne (by decide)).trans (H.f13 h), fun h => (put_ne (by decide)).trans (H.f16 h), fun h => (put_ne (by decide)).trans (H.f17 h), fun h => (put_ne (by decide)).trans (H.f19 h), fun h => (put_ne (by decide)).trans (H.f20 h), (H.dyn.congr (put_ne (by decide)) (put_ne (by decide)) (put_ne (by decide)) (put_ne (by decide))), H.qA, H.qB, H.qS, H.qT⟩
          · intro d a w H hk hdep
            have e11 : d 11 = true := hdep ⟨11, .data⟩ (by simp) rfl
            have hq : d 15 = false := by cases hq : d 15 with | false => rfl | true => exact absurd (H.qB hq).1 (by rw [hk]; decide)
            have hs0 : d 18 = false := by cases hs : d 18 with | false => rfl | true => exact absurd (H.qS hs).2 (by rw [hq]; decide)
            have hs : d 21 = false := by cases hs : d 21 with | false => rfl | true => exact absurd (H.qT hs) (by rw [hs0]; decide)
            have hc := blk_cells H.dyn.cell 7
            rw [hs] at hc
            refine op_load 94 (.tmp 138) ⟨W, 7, none⟩ rfl (H.f11 e11) (loadW 7 W x7 w (hc.trans (HCB.out _ _))).1 ?_
            exact ⟨put_size.trans H.sz, put_defers.trans H.df, fun j hj => (put_ne (by omega)).trans (H.old j hj), fun h => (put_ne (by decide)).trans (H.f0 h), fun h => (put_ne (by decide)).trans (H.f1 h), fun h => (put_ne (by decide)).trans (H.f2 h), fun h => (put_ne (by decide)).trans (H.f3 h), fun h => (put_ne (by decide)).trans (H.f4 h), fun h => (put_ne (by decide)).trans (H.f5 h), fun h => (put_ne (by decide)).trans (H.f6 h), fun h => (put_ne (by decide)).trans (H.f9 h), fun h => (put_ne (by decide)).trans (H.f10 h), fun h => (put_ne (by decide)).trans (H.f11 h), fun _ => put_same (by rw [H.sz]; decide), fun h => (put_ne (by decide)).trans (H.f13 h), fun h => (put_ne (by decide)).trans (H.f16 h), fun h => (put_ne (by decide)).trans (H.f17 h), fun h => (put_ne (by decide)).trans (H.f19 h), fun h => (put_ne (by decide)).trans (H.f20 h), (H.dyn.congr (put_ne (by decide)) (put_ne (by decide)) (put_ne (by decide)) (put_ne (by decide))), H.qA, fun h => ⟨rfl, (H.qB h).2.1, (H.qB h).2.2⟩, H.qS, H.qT⟩
          · intro d a w H hk hdep
            refine op_move (.tmp 14) rfl ((H.old 14 (by omega)).trans EB.out) ?_
            exact ⟨put_size.trans H.sz, put_defers.trans H.df, fun j hj => (put_ne (by omega)).trans (H.old j hj), fun h => (put_ne (by decide)).trans (H.f0 h), fun h => (put_ne (by decide)).trans (H.f1 h), fun h => (put_ne (by decide)).trans (H.f2 h), fun h => (put_ne (by decide)).trans (H.f3 h), fun h => (put_ne (by decide)).trans (H.f4 h), fun h => (put_ne (by decide)).trans (H.f5 h), fun h => (put_ne (by decide)).trans (H.f6 h), fun h => (put_ne (by decide)).trans (H.f9 h), fun h => (put_ne (by decide)).trans (H.f10 h), fun h => (put_ne (by decide)).trans (H.f11 h), fun h => (put_ne (by decide)).trans (H.f12 h), fun _ => put_same (by rw [H.sz]; decide), fun h => (put_ne (by decide)).trans (H.f16 h), fun h => (put_ne (by decide)).trans (H.f17 h), fun h => (put_ne (by decide)).trans (H.f19 h), fun h => (put_ne (by decide)).trans (H.f20 h), (H.dyn.congr (put_ne (by decide)) (put_ne (by decide)) (put_ne (by decide)) (put_ne (by decide))), H.qA, H.qB, H.qS, H.qT⟩
          · intro d a w H hk hdep
            have e13 : d 13 = true := hdep ⟨13, .data⟩ (by simp) rfl
            refine op_build1 94 (.tmp 140) (.int .i64 x) rfl (H.f13 e13) (HBB.out w) ?_
            exact ⟨put_size.trans H.sz, put_defers.trans H.df, fun j hj => (put_ne (by omega)).trans (H.old j hj), fun h => (put_ne (by decide)).trans (H.f0 h), fun h => (put_ne (by decide)).trans (H.f1 h), fun h => (put_ne (by decide)).trans (H.f2 h), fun h => (put_ne (by decide)).trans (H.f3 h), fun h => (put_ne (by decide)).trans (H.f4 h), fun h => (put_ne (by decide)).trans (H.f5 h), fun h => (put_ne (by decide)).trans (H.f6 h), fun h => (put_ne (by decide)).trans (H.f9 h), fun h => (put_ne (by decide)).trans (H.f10 h), fun h => (put_ne (by decide)).trans (H.f11 h), fun h => (put_ne (by decide)).trans (H.f12 h), fun h => (put_ne (by decide)).trans (H.f13 h), fun h => (put_ne (by decide)).trans (H.f16 h), fun h => (put_ne (by decide)).trans (H.f17 h), fun h => (put_ne (by decide)).trans (H.f19 h), fun h => (put_ne (by decide)).trans (H.f20 h), ((H.dyn.allocB).congr (put_ne (by decide)) (put_ne (by decide)) (put_same (by rw [H.sz]; decide)) (put_ne (by decide))), H.qA, fun h => ⟨(H.qB h).1, rfl, (H.qB h).2.2⟩, H.qS, H.qT⟩
          · intro d a w H hk hdep
            have e12 : d 12 = true := hdep ⟨12, .data⟩ (by simp) rfl
            have e14 : d 14 = true := hdep ⟨14, .data⟩ (by simp) rfl
            have e8 : d 8 = true := hdep ⟨8, .chain⟩ (by simp) rfl
            have hB : d 15 = false := hk
            have hs0 : d 18 = false := by cases hs : d 18 with | false => rfl | true => exact absurd (H.qS hs).2 (by rw [hB]; decide)
            have hs1 : d 21 = false := by cases hs : d 21 with | false => rfl | true => exact absurd (H.qT hs) (by rw [hs0]; decide)
            have hr := H.dyn.rB
            rw [hk] at hr
            simp only [Bool.false_eq_true, if_false] at hr
            obtain ⟨b, hb1, hb2, hb3⟩ := H.dyn.bB e14
            have hsl : Sl tInt w (fun k => some k ≠ (x7).ownBlock ∧ k < w.heap.size) (some ⟨b, 0, none⟩) [x] := HVIB.out hb3 ⟨fun e => by have := HCC.out.lB b e.symm; omega, blk_lt hb3⟩
            refine op_app (T := tInt) rfl (.tmp 139) (.tmp 141) 94 rfl iI (.int .i64 0) 8 Tryz.underlying94 hiI hiI0 hiI1 hiI2 rfl (by decide) int_one w0.heap.size x7 L7 (H.f12 e12) hr ⟨b, 0, none⟩ 1 [x] hb1 hsl (HLB.out.1) (HLB.out.2) (Nat.le_trans HCC.out.bl H.dyn.size) ?_
            intro v9 w9 hown hg hat
            have hd := H.dyn
            rw [show d 15 = false from hk, hs1] at hd
            have hd2 := R2I.appB HCC.out int_Free hd hown hg hat
            have hd3 : R2I tInt tInt 96 (fun y z => wkC c g p ma ms mc y4 y5 y z) w8 W w0.heap.size x6 x7 L6 L7 s x (.int .i64 s) (.int .i64 x) (updD d 15 7) (updD d 15 8) (updD d 15 14) (updD d 15 15) (updD d 15 18) (updD d 15 21) (a.eval (.tmp 134)) (a.eval (.tmp 135)) (a.eval (.tmp 141)) v9 w9 := by
              rw [show updD d 15 7 = d 7 from rfl, show updD d 15 8 = d 8 from rfl, show updD d 15 14 = d 14 from rfl, show updD d 15 15 = true from rfl, show updD d 15 18 = d 18 from rfl, show updD d 15 21 = false from hs1]
              exact hd2
            exact ⟨put_size.trans H.sz, put_defers.trans H.df, fun j hj => (put_ne (by omega)).trans (H.old j hj), fun h => (put_ne (by decide)).trans (H.f0 h), fun h => (put_ne (by decide)).trans (H.f1 h), fun h => (put_ne (by decide)).trans (H.f2 h), fun h => (put_ne (by decide)).trans (H.f3 h), fun h => (put_ne (by decide)).trans (H.f4 h), fun h => (put_ne (by decide)).trans (H.f5 h), fun h => (put_ne (by decide)).trans (H.f6 h), fun h => (put_ne (by decide)).trans (H.f9 h), fun h => (put_ne (by decide)).trans (H.f10 h), fun h => (put_ne (by decide)).trans (H.f11 h), fun h => (put_ne (by decide)).trans (H.f12 h), fun h => (put_ne (by decide)).trans (H.f13 h), fun h => (put_ne (by decide)).trans (H.f16 h), fun h => (put_ne (by decide)).trans (H.f17 h), fun h => (put_ne (by decide)).trans (H.f19 h), fun h => (put_ne (by decide)).trans (H.f20 h), (hd3.congr (put_ne (by decide)) (put_ne (by decide)) (put_ne (by decide)) (put_same (by rw [H.sz]; decide))), H.qA, fun _ => ⟨e12, e14, e8⟩, fun h => ⟨(H.qS h).1, rfl⟩, H.qT⟩
          · intro d a w H hk hdep
            have e0 : d 0 = true := hdep ⟨0, .data⟩ (by simp) rfl
            refine op_nil (.tmp 127) ⟨W, 0, none⟩ rfl (H.f0 e0) ?_
            exact ⟨put_size.trans H.sz, put_defers.trans H.df, fun j hj => (put_ne (by omega)).trans (H.old j hj), fun h => (put_ne (by decide)).trans (H.f0 h), fun h => (put_ne (by decide)).trans (H.f1 h), fun h => (put_ne (by decide)).trans (H.f2 h), fun h => (put_ne (by decide)).trans (H.f3 h), fun h => (put_ne (by decide)).trans (H.f4 h), fun h => (put_ne (by decide)).trans (H.f5 h), fun h => (put_ne (by decide)).trans (H.f6 h), fun h => (put_ne (by decide)).trans (H.f9 h), fun h => (put_ne (by decide)).trans (H.f10 h), fun h => (put_ne (by decide)).trans (H.f11 h), fun h => (put_ne (by decide)).trans (H.f12 h), fun h => (put_ne (by decide)).trans (H.f13 h), fun _ => put_same (by rw [H.sz]; decide), fun h => (put_ne (by decide)).trans (H.f17 h), fun h => (put_ne (by decide)).trans (H.f19 h), fun h => (put_ne (by decide)).trans (H.f20 h), (H.dyn.congr (put_ne (by decide)) (put_ne (by decide)) (put_ne (by decide)) (put_ne (by decide))), H.qA, H.qB, H.qS, H.qT⟩
          · intro d a w H hk hdep
            have e16 : d 16 = true := hdep ⟨16, .data⟩ (by simp) rfl
            refine op_field 96 6 (.tmp 143) ⟨W, 0, none⟩ rfl (H.f16 e16) (fieldW W 6 w (by decide)) ?_
            exact ⟨put_size.trans H.sz, put_defers.trans H.df, fun j hj => (put_ne (by omega)).trans (H.old j hj), fun h => (put_ne (by decide)).trans (H.f0 h), fun h => (put_ne (by decide)).trans (H.f1 h), fun h => (put_ne (by decide)).trans (H.f2 h), fun h => (put_ne (by decide)).trans (H.f3 h), fun h => (put_ne (by decide)).trans (H.f4 h), fun h => (put_ne (by decide)).trans (H.f5 h), fun h => (put_ne (by decide)).trans (H.f6 h), fun h => (put_ne (by decide)).trans (H.f9 h), fun h => (put_ne (by decide)).trans (H.f10 h), fun h => (put_ne (by decide)).trans (H.f11 h), fun h => (put_ne (by decide)).trans (H.f12 h), fun h => (put_ne (by decide)).trans (H.f13 h), fun h => (put_ne (by decide)).trans (H.f16 h), fun _ => put_same (by rw [H.sz]; decide), fun h => (put_ne (by decide)).trans (H.f19 h), fun h => (put_ne (by decide)).trans (H.f20 h), (H.dyn.congr (put_ne (by decide)) (put_ne (by decide)) (put_ne (by decide)) (put_ne (by decide))), H.qA, H.qB, H.qS, H.qT⟩
          · intro d a w H hk hdep
            have e17 : d 17 = true := hdep ⟨17, .data⟩ (by simp) rfl
            have e8 : d 8 = true := hdep ⟨8, .data⟩ (by simp) rfl
            have e15 : d 15 = true := hdep ⟨15, .chain⟩ (by simp) rfl
            have hr := H.dyn.rA
            rw [e8] at hr
            simp only [if_true] at hr
            obtain ⟨ya, yc, hy, _⟩ := hr.slice
            have hs1 : d 21 = false := by cases hs : d 21 with | false => rfl | true => exact absurd (H.qT hs) (by rw [hk]; decide)
            refine op_store 94 (.tmp 144) (.tmp 135) ⟨W, 6, none⟩ (.slice ya (L6 ++ [s]).length yc) rfl rfl (H.f17 e17) hy (storeW W 6 ya (L6 ++ [s]).length yc w H.dyn.cell (Nat.lt_of_lt_of_le (by decide) (HSZ.out _ _))).1 ?_
            rw [← hy]
            have hd := H.dyn
            rw [show d 18 = false from hk, e8] at hd
            have hd2 := R2I.storeA HCC.out int_Free int_Free HIA.out hd
            have hd3 : R2I tInt tInt 96 (fun y z => wkC c g p ma ms mc y4 y5 y z) w8 W w0.heap.size x6 x7 L6 L7 s x (.int .i64 s) (.int .i64 x) (updD d 18 7) (updD d 18 8) (updD d 18 14) (updD d 18 15) (updD d 18 18) (updD d 18 21) (a.eval (.tmp 134)) (a.eval (.tmp 135)) (a.eval (.tmp 141)) (a.eval (.tmp 142)) (w.setCell ⟨W, 6, none⟩ (a.eval (.tmp 135))) := by
              rw [show updD d 18 7 = d 7 from rfl, show updD d 18 8 = true from e8, show updD d 18 14 = d 14 from rfl, show updD d 18 15 = d 15 from rfl, show updD d 18 18 = true from rfl, show updD d 18 21 = d 21 from rfl]
              exact hd2
            exact ⟨H.sz, H.df, H.old, H.f0, H.f1, H.f2, H.f3, H.f4, H.f5, H.f6, H.f9, H.f10, H.f11, H.f12, H.f13, H.f16, H.f17, H.f19, H.f20, hd3, H.qA, H.qB, fun _ => ⟨e8, e15⟩, fun h => rfl⟩
          · intro d a w H hk hdep
            have e1 : d 1 = true := hdep ⟨1, .data⟩ (by simp) rfl
            refine op_nil (.tmp 128) ⟨W, 0, none⟩ rfl (H.f1 e1) ?_
            exact ⟨put_size.trans H.sz, put_defers.trans H.df, fun j hj => (put_ne (by omega)).trans (H.old j hj), fun h => (put_ne (by decide)).trans (H.f0 h), fun h => (put_ne (by decide)).trans (H.f1 h), fun h => (put_ne (by decide)).trans (H.f2 h), fun h => (put_ne (by decide)).trans (H.f3 h), fun h => (put_ne (by decide)).trans (H.f4 h), fun h => (put_ne (by decide)).trans (H.f5 h), fun h => (put_ne (by decide)).trans (H.f6 h), fun h => (put_ne (by decide)).trans (H.f9 h), fun h => (put_ne (by decide)).trans (H.f10 h), fun h => (put_ne (by decide)).trans (H.f11 h), fun h => (put_ne (by decide)).trans (H.f12 h), fun h => (put_ne (by decide)).trans (H.f13 h), fun h => (put_ne (by decide)).trans (H.f16 h), fun h => (put_ne (by decide)).trans (H.f17 h), fun _ => put_same (by rw [H.sz]; decide), fun h => (put_ne (by decide)).trans (H.f20 h), (H.dyn.congr (put_ne (by decide)) (put_ne (by decide)) (put_ne (by decide)) (put_ne (by decide))), H.qA, H.qB, H.qS, H.qT⟩
          · intro d a w H hk hdep
            have e19 : d 19 = true := hdep ⟨19, .data⟩ (by simp) rfl
            refine op_field 96 7 (.tmp 145) ⟨W, 0, none⟩ rfl (H.f19 e19) (fieldW W 7 w (by decide)) ?_
            exact ⟨put_size.trans H.sz, put_defers.trans H.df, fun j hj => (put_ne (by omega)).trans (H.old j hj), fun h => (put_ne (by decide)).trans (H.f0 h), fun h => (put_ne (by decide)).trans (H.f1 h), fun h => (put_ne (by decide)).trans (H.f2 h), fun h => (put_ne (by decide)).trans (H.f3 h), fun h => (put_ne (by decide)).trans (H.f4 h), fun h => (put_ne (by decide)).trans (H.f5 h), fun h => (put_ne (by decide)).trans (H.f6 h), fun h => (put_ne (by decide)).trans (H.f9 h), fun h => (put_ne (by decide)).trans (H.f10 h), fun h => (put_ne (by decide)).trans (H.f11 h), fun h => (put_ne (by decide)).trans (H.f12 h), fun h => (put_ne (by decide)).trans (H.f13 h), fun h => (put_ne (by decide)).trans (H.f16 h), fun h => (put_ne (by decide)).trans (H.f17 h), fun h => (put_ne (by decide)).trans (H.f19 h), fun _ => put_same (by rw [H.sz]; decide), (H.dyn.congr (put_ne (by decide)) (put_ne (by decide)) (put_ne (by decide)) (put_ne (by decide))), H.qA, H.qB, H.qS, H.qT⟩
          · intro d a w H hk hdep
            have e20 : d 20 = true := hdep ⟨20, .data⟩ (by simp) rfl
            have e15 : d 15 = true := hdep ⟨15, .data⟩ (by simp) rfl
            have e18 : d 18 = true := hdep ⟨18, .chain⟩ (by simp) rfl
            have hr := H.dyn.rB
            rw [e15] at hr
            simp only [if_true] at hr
            obtain ⟨ya, yc, hy, _⟩ := hr.slice
            refine op_store 94 (.tmp 146) (.tmp 142) ⟨W, 7, none⟩ (.slice ya (L7 ++ [x]).length yc) rfl rfl (H.f20 e20) hy (storeW W 7 ya (L7 ++ [x]).length yc w H.dyn.cell (Nat.lt_of_lt_of_le (by decide) (HSZ.out _ _))).1 ?_
            rw [← hy]
            have hd := H.dyn
            rw [show d 21 = false from hk, e15] at hd
            have hd2 := R2I.storeB HCC.out int_Free int_Free HIB.out hd
            have hd3 : R2I tInt tInt 96 (fun y z => wkC c g p ma ms mc y4 y5 y z) w8 W w0.heap.size x6 x7 L6 L7 s x (.int .i64 s) (.int .i64 x) (updD d 21 7) (updD d 21 8) (updD d 21 14) (updD d 21 15) (updD d 21 18) (updD d 21 21) (a.eval (.tmp 134)) (a.eval (.tmp 135)) (a.eval (.tmp 141)) (a.eval (.tmp 142)) (w.setCell ⟨W, 7, none⟩ (a.eval (.tmp 142))) := by
              rw [show updD d 21 7 = d 7 from rfl, show updD d 21 8 = d 8 from rfl, show updD d 21 14 = d 14 from rfl, show updD d 21 15 = true from e15, show updD d 21 18 = d 18 from rfl, show updD d 21 21 = true from rfl]
              exact hd2
            exact ⟨H.sz, H.df, H.old, H.f0, H.f1, H.f2, H.f3, H.f4, H.f5, H.f6, H.f9, H.f10, H.f11, H.f12, H.f13, H.f16, H.f17, H.f19, H.f20, hd3, H.qA, H.qB, H.qS, fun _ => e18⟩
      · skip
        refine ⟨?_, ?_, ?_, ?_, ?_, ?_, ?_, ?_, ?_, ?_, ?_, ?_, ?_, ?_, ?_, ?_, ?_, ?_, ?_, ?_, ?_, ?_, ?_, trivial⟩
        · intro d a w H hk hdep
          refine op_move (.tmp 0) rfl ((H.old 0 (by omega)).trans E0.out) ?_
          exact ⟨put_size.trans H.sz, put_defers.trans H.df, fun j hj => (put_ne (by omega)).trans (H.old j hj), fun _ => put_same (by rw [H.sz]; decide), fun h => (put_ne (by decide)).trans (H.f1 h), fun h => (put_ne (by decide)).trans (H.f2 h), fun h => (put_ne (by decide)).trans (H.f3 h), fun h => (put_ne (by decide)).trans (H.f4 h), fun h => (put_ne (by decide)).trans (H.f5 h), fun h => (put_ne (by decide)).trans (H.f6 h), fun h => (put_ne (by decide)).trans (H.f9 h), fun h => (put_ne (by decide)).trans (H.f10 h), fun h => (put_ne (by decide)).trans (H.f11 h), fun h => (put_ne (by decide)).trans (H.f12 h), fun h => (put_ne (by decide)).trans (H.f13 h), fun h => (put_ne (by decide)).trans (H.f14 h), fun h => (put_ne (by decide)).trans (H.f17 h), fun h => (put_ne (by decide)).trans (H.f18 h), fun h => (put_ne (by decide)).trans (H.f20 h), fun h => (put_ne (by decide)).trans (H.f21 h), (H.dyn.congr (put_ne (by decide)) (put_ne (by decide)) (put_ne (by decide)) (put_ne (by decide))), H.qA, H.qB, H.qS, H.qT⟩
        · intro d a w H hk hdep
          refine op_move (.tmp 0) rfl ((H.old 0 (by omega)).trans E0.out) ?_
          exact ⟨put_size.trans H.sz, put_defers.trans H.df, fun j hj => (put_ne (by omega)).trans (H.old j hj), fun h => (put_ne (by decide)).trans (H.f0 h), fun _ => put_same (by rw [H.sz]; decide), fun h => (put_ne (by decide)).trans (H.f2 h), fun h => (put_ne (by decide)).trans (H.f3 h), fun h => (put_ne (by decide)).trans (H.f4 h), fun h => (put_ne (by decide)).trans (H.f5 h), fun h => (put_ne (by decide)).trans (H.f6 h), fun h => (put_ne (by decide)).trans (H.f9 h), fun h => (put_ne (by decide)).trans (H.f10 h), fun h => (put_ne (by decide)).trans (H.f11 h), fun h => (put_ne (by decide)).trans (H.f12 h), fun h => (put_ne (by decide)).trans (H.f13 h), fun h => (put_ne (by decide)).trans (H.f14 h), fun h => (put_ne (by decide)).trans (H.f17 h), fun h => (put_ne (by decide)).trans (H.f18 h), fun h => (put_ne (by decide)).trans (H.f20 h), fun h => (put_ne (by decide)).trans (H.f21 h), (H.dyn.congr (put_ne (by decide)) (put_ne (by decide)) (put_ne (by decide)) (put_ne (by decide))), H.qA, H.qB, H.qS, H.qT⟩
        · intro d a w H hk hdep
          refine op_move (.tmp 0) rfl ((H.old 0 (by omega)).trans E0.out) ?_
          exact ⟨put_size.trans H.sz, put_defers.trans H.df, fun j hj => (put_ne (by omega)).trans (H.old j hj), fun h => (put_ne (by decide)).trans (H.f0 h), fun h => (put_ne (by decide)).trans (H.f1 h), fun _ => put_same (by rw [H.sz]; decide), fun h => (put_ne (by decide)).trans (H.f3 h), fun h => (put_ne (by decide)).trans (H.f4 h), fun h => (put_ne (by decide)).trans (H.f5 h), fun h => (put_ne (by decide)).trans (H.f6 h), fun h => (put_ne (by decide)).trans (H.f9 h), fun h => (put_ne (by decide)).trans (H.f10 h), fun h => (put_ne (by decide)).trans (H.f11 h), fun h => (put_ne (by decide)).trans (H.f12 h), fun h => (put_ne (by decide)).trans (H.f13 h), fun h => (put_ne (by decide)).trans (H.f14 h), fun h => (put_ne (by decide)).trans (H.f17 h), fun h => (put_ne (by decide)).trans (H.f18 h), fun h => (put_ne (by decide)).trans (H.f20 h), fun h => (put_ne (by decide)).trans (H.f21 h), (H.dyn.congr (put_ne (by decide)) (put_ne (by decide)) (put_ne (by decide)) (put_ne (by decide))), H.qA, H.qB, H.qS, H.qT⟩
        · intro d a w H hk hdep
          have e2 : d 2 = true := hdep ⟨2, .data⟩ (by simp) rfl
          refine op_nil (.tmp 108) ⟨W, 0, none⟩ rfl (H.f2 e2) ?_
          exact ⟨put_size.trans H.sz, put_defers.trans H.df, fun j hj => (put_ne (by omega)).trans (H.old j hj), fun h => (put_ne (by decide)).trans (H.f0 h), fun h => (put_ne (by decide)).trans (H.f1 h), fun h => (put_ne (by decide)).trans (H.f2 h), fun _ => put_same (by rw [H.sz]; decide), fun h => (put_ne (by decide)).trans (H.f4 h), fun h => (put_ne (by decide)).trans (H.f5 h), fun h => (put_ne (by decide)).trans (H.f6 h), fun h => (put_ne (by decide)).trans (H.f9 h), fun h => (put_ne (by decide)).trans (H.f10 h), fun h => (put_ne (by decide)).trans (H.f11 h), fun h => (put_ne (by decide)).trans (H.f12 h), fun h => (put_ne (by decide)).trans (H.f13 h), fun h => (put_ne (by decide)).trans (H.f14 h), fun h => (put_ne (by decide)).trans (H.f17 h), fun h => (put_ne (by decide)).trans (H.f18 h), fun h => (put_ne (by decide)).trans (H.f20 h), fun h => (put_ne (by decide)).trans (H.f21 h), (H.dyn.congr (put_ne (by decide)) (put_ne (by decide)) (put_ne (by decide)) (put_ne (by decide))), H.qA, H.qB, H.qS, H.qT⟩
        · intro d a w H hk hdep
          have e3 : d 3 = true := hdep ⟨3, .data⟩ (by simp) rfl
          refine op_field 96 4 (.tmp 109) ⟨W, 0, none⟩ rfl (H.f3 e3) (fieldW W 4 w (by decide)) ?_
          exact ⟨put_size.trans H.sz, put_defers.trans H.df, fun j hj => (put_ne (by omega)).trans (H.old j hj), fun h => (put_ne (by decide)).trans (H.f0 h), fun h => (put_ne (by decide)).trans (H.f1 h), fun h => (put_ne (by decide)).trans (H.f2 h), fun h => (put_ne (by decide)).trans (H.f3 h), fun _ => put_same (by rw [H.sz]; decide), fun h => (put_ne (by decide)).trans (H.f5 h), fun h => (put_ne (by decide)).trans (H.f6 h), fun h => (put_ne (by decide)).trans (H.f9 h), fun h => (put_ne (by decide)).trans (H.f10 h), fun h => (put_ne (by decide)).trans (H.f11 h), fun h => (put_ne (by decide)).trans (H.f12 h), fun h => (put_ne (by decide)).trans (H.f13 h), fun h => (put_ne (by decide)).trans (H.f14 h), fun h => (put_ne (by decide)).trans (H.f17 h), fun h => (put_ne (by decide)).trans (H.f18 h), fun h => (put_ne (by decide)).trans (H.f20 h), fun h => (put_ne (by decide)).trans (H.f21 h), (H.dyn.congr (put_ne (by decide)) (put_ne (by decide)) (put_ne (by decide)) (put_ne (by decide))), H.qA, H.qB, H.qS, H.qT⟩
        · intro d a w H hk hdep
          have e4 : d 4 = true := hdep ⟨4, .data⟩ (by simp) rfl
          have hq : d 8 = false := by cases hq : d 8 with | false => rfl | true => exact absurd (H.qA hq).1 (by rw [hk]; decide)
          have hs : d 19 = false := by cases hs : d 19 with | false => rfl | true => exact absurd (H.qS hs).1 (by rw [hq]; decide)
          have hc := blk_cells H.dyn.cell 4
          rw [hs] at hc
          refine op_load 40 (.tmp 110) ⟨W, 4, none⟩ rfl (H.f4 e4) (loadW 4 W x4 w (hc.trans (HCA.out _ _))).2 ?_
          exact ⟨put_size.trans H.sz, put_defers.trans H.df, fun j hj => (put_ne (by omega)).trans (H.old j hj), fun h => (put_ne (by decide)).trans (H.f0 h), fun h => (put_ne (by decide)).trans (H.f1 h), fun h => (put_ne (by decide)).trans (H.f2 h), fun h => (put_ne (by decide)).trans (H.f3 h), fun h => (put_ne (by decide)).trans (H.f4 h), fun _ => put_same (by rw [H.sz]; decide), fun h => (put_ne (by decide)).trans (H.f6 h), fun h => (put_ne (by decide)).trans (H.f9 h), fun h => (put_ne (by decide)).trans (H.f10 h), fun h => (put_ne (by decide)).trans (H.f11 h), fun h => (put_ne (by decide)).trans (H.f12 h), fun h => (put_ne (by decide)).trans (H.f13 h), fun h => (put_ne (by decide)).trans (H.f14 h), fun h => (put_ne (by decide)).trans (H.f17 h), fun h => (put_ne (by decide)).trans (H.f18 h), fun h => (put_ne (by decide)).trans (H.f20 h), fun h => (put_ne (by decide)).trans (H.f21 h), (H.dyn.congr (put_ne (by decide)) (put_ne (by decide)) (put_ne (by decide)) (put_ne (by decide))), fun h => ⟨rfl, (H.qA h).2⟩, H.qB, H.qS, H.qT⟩
        · intro d a w H hk hdep
          refine op_move (.tmp 5) rfl ((H.old 5 (by omega)).trans EA.out) ?_
          exact ⟨put_size.trans H.sz, put_defers.trans H.df, fun j hj => (put_ne (by omega)).trans (H.old j hj), fun h => (put_ne (by decide)).trans (H.f0 h), fun h => (put_ne (by decide)).trans (H.f1 h), fun h => (put_ne (by decide)).trans (H.f2 h), fun h => (put_ne (by decide)).trans (H.f3 h), fun h => (put_ne (by decide)).trans (H.f4 h), fun h => (put_ne (by decide)).trans (H.f5 h), fun _ => put_same (by rw [H.sz]; decide), fun h => (put_ne (by decide)).trans (H.f9 h), fun h => (put_ne (by decide)).trans (H.f10 h), fun h => (put_ne (by decide)).trans (H.f11 h), fun h => (put_ne (by decide)).trans (H.f12 h), fun h => (put_ne (by decide)).trans (H.f13 h), fun h => (put_ne (by decide)).trans (H.f14 h), fun h => (put_ne (by decide)).trans (H.f17 h), fun h => (put_ne (by decide)).trans (H.f18 h), fun h => (put_ne (by decide)).trans (H.f20 h), fun h => (put_ne (by decide)).trans (H.f21 h), (H.dyn.congr (put_ne (by decide)) (put_ne (by decide)) (put_ne (by decide)) (put_ne (by decide))), H.qA, H.qB, H.qS, H.qT⟩
        · intro d a w H hk hdep
          have e6 : d 6 = true := hdep ⟨6, .data⟩ (by simp) rfl
          refine op_build1 40 (.tmp 112) (Value.slice ta tl.length tc) rfl (H.f6 e6) (HBA.out w) ?_
          exact ⟨put_size.trans H.sz, put_defers.trans H.df, fun j hj => (put_ne (by omega)).trans (H.old j hj), fun h => (put_ne (by decide)).trans (H.f0 h), fun h => (put_ne (by decide)).trans (H.f1 h), fun h => (put_ne (by decide)).trans (H.f2 h), fun h => (put_ne (by decide)).trans (H.f3 h), fun h => (put_ne (by decide)).trans (H.f4 h), fun h => (put_ne (by decide)).trans (H.f5 h), fun h => (put_ne (by decide)).trans (H.f6 h), fun h => (put_ne (by decide)).trans (H.f9 h), fun h => (put_ne (by decide)).trans (H.f10 h), fun h => (put_ne (by decide)).trans (H.f11 h), fun h => (put_ne (by decide)).trans (H.f12 h), fun h => (put_ne (by decide)).trans (H.f13 h), fun h => (put_ne (by decide)).trans (H.f14 h), fun h => (put_ne (by decide)).trans (H.f17 h), fun h => (put_ne (by decide)).trans (H.f18 h), fun h => (put_ne (by decide)).trans (H.f20 h), fun h => (put_ne (by decide)).trans (H.f21 h), ((H.dyn.allocA).congr (put_same (by rw [H.sz]; decide)) (put_ne (by decide)) (put_ne (by decide)) (put_ne (by decide))), fun h => ⟨(H.qA h).1, rfl⟩, fun h => ⟨(H.qB h).1, (H.qB h).2.1, (H.qB h).2.2⟩, H.qS, H.qT⟩
        · intro d a w H hk hdep
          have e5 : d 5 = true := hdep ⟨5, .data⟩ (by simp) rfl
          have e7 : d 7 = true := hdep ⟨7, .data⟩ (by simp) rfl
          have hq : d 8 = false := hk
          have hB : d 16 = false := by cases hB : d 16 with | false => rfl | true => exact absurd (H.qB hB).2.2 (by rw [hk]; decide)
          have hs0 : d 19 = false := by cases hs : d 19 with | false => rfl | true => exact absurd (H.qS hs).2 (by rw [hB]; decide)
          have hs1 : d 22 = false := by cases hs : d 22 with | false => rfl | true => exact absurd (H.qT hs) (by rw [hs0]; decide)
          have hr := H.dyn.rA
          rw [hk] at hr
          simp only [Bool.false_eq_true, if_false] at hr
          obtain ⟨b, hb1, hb2, hb3⟩ := H.dyn.bA e7
          have hsl : Sl tBalV w (fun k => some k ≠ (x4).ownBlock ∧ k < w.heap.size) (some ⟨b, 0, none⟩) [(Value.slice ta tl.length tc)] := HVA.out hb3 ⟨fun e => by have := HCC.out.lA b e.symm; omega, blk_lt hb3⟩
          refine op_app (T := tBalV) rfl (.tmp 111) (.tmp 113) 40 rfl iA (.slice none 0 0) 24 Tryz.underlying40 hiA hiA0 hiA1 hiA2 rfl (by decide) balV_one w0.heap.size x4 vs (H.f5 e5) hr ⟨b, 0, none⟩ 1 [(Value.slice ta tl.length tc)] hb1 hsl (HLA.out.1) (HLA.out.2) (Nat.le_trans HCC.out.bl H.dyn.size) ?_
          intro v9 w9 hown hg hat
          have hd := H.dyn
          rw [show d 8 = false from hk, hB, hs0] at hd
          have hd2 := R2I.appA HCC.out int_Free hd hown hg hat
          have hd3 : R2I tBalV tInt 96 (fun y z => wkC c g p ma ms mc y z x6 x7) w7 W w0.heap.size x4 x5 vs L5 (Value.slice ta tl.length tc) (-aa) (Value.slice ta tl.length tc) (.int .i64 (-aa)) (updD d 8 7) (updD d 8 8) (updD d 8 15) (updD d 8 16) (updD d 8 19) (updD d 8 22) (a.eval (.tmp 113)) v9 (a.eval (.tmp 121)) (a.eval (.tmp 122)) w9 := by
            rw [show updD d 8 7 = d 7 from rfl, show updD d 8 8 = true from rfl, show updD d 8 15 = d 15 from rfl, show updD d 8 16 = false from hB, show updD d 8 19 = false from hs0, show updD d 8 22 = d 22 from rfl]
            exact hd2
          exact ⟨put_size.trans H.sz, put_defers.trans H.df, fun j hj => (put_ne (by omega)).trans (H.old j hj), fun h => (put_ne (by decide)).trans (H.f0 h), fun h => (put_ne (by decide)).trans (H.f1 h), fun h => (put_ne (by decide)).trans (H.f2 h), fun h => (put_ne (by decide)).trans (H.f3 h), fun h => (put_ne (by decide)).trans (H.f4 h), fun h => (put_ne (by decide)).trans (H.f5 h), fun h => (put_ne (by decide)).trans (H.f6 h), fun h => (put_ne (by decide)).trans (H.f9 h), fun h => (put_ne (by decide)).trans (H.f10 h), fun h => (put_ne (by decide)).trans (H.f11 h), fun h => (put_ne (by decide)).trans (H.f12 h), fun h => (put_ne (by decide)).trans (H.f13 h), fun h => (put_ne (by decide)).trans (H.f14 h), fun h => (put_ne (by decide)).trans (H.f17 h), fun h => (put_ne (by decide)).trans (H.f18 h), fun h => (put_ne (by decide)).trans (H.f20 h), fun h => (put_ne (by decide)).trans (H.f21 h), (hd3.congr (put_ne (by decide)) (put_same (by rw [H.sz]; decide)) (put_ne (by decide)) (put_ne (by decide))), fun _ => ⟨e5, e7⟩, fun h => ⟨(H.qB h).1, (H.qB h).2.1, rfl⟩, fun h => ⟨rfl, (H.qS h).2⟩, H.qT⟩
        · intro d a w H hk hdep
          refine op_move (.tmp 0) rfl ((H.old 0 (by omega)).trans E0.out) ?_
          exact ⟨put_size.trans H.sz, put_defers.trans H.df, fun j hj => (put_ne (by omega)).trans (H.old j hj), fun h => (put_ne (by decide)).trans (H.f0 h), fun h => (put_ne (by decide)).trans (H.f1 h), fun h => (put_ne (by decide)).trans (H.f2 h), fun h => (put_ne (by decide)).trans (H.f3 h), fun h => (put_ne (by decide)).trans (H.f4 h), fun h => (put_ne (by decide)).trans (H.f5 h), fun h => (put_ne (by decide)).trans (H.f6 h), fun _ => put_same (by rw [H.sz]; decide), fun h => (put_ne (by decide)).trans (H.f10 h), fun h => (put_ne (by decide)).trans (H.f11 h), fun h => (put_ne (by decide)).trans (H.f12 h), fun h => (put_ne (by decide)).trans (H.f13 h), fun h => (put_ne (by decide)).trans (H.f14 h), fun h => (put_ne (by decide)).trans (H.f17 h), fun h => (put_ne (by decide)).trans (H.f18 h), fun h => (put_ne (by decide)).trans (H.f20 h), fun h => (put_ne (by decide)).trans (H.f21 h), (H.dyn.congr (put_ne (by decide)) (put_ne (by decide)) (put_ne (by decide)) (put_ne (by decide))), H.qA, H.qB, H.qS, H.qT⟩
        · intro d a w H hk hdep
          have e9 : d 9 = true := hdep ⟨9, .data⟩ (by simp) rfl
          refine op_nil (.tmp 115) ⟨W, 0, none⟩ rfl (H.f9 e9) ?_
          exact ⟨put_size.trans H.sz, put_defers.trans H.df, fun j hj => (put_ne (by omega)).trans (H.old j hj), fun h => (put_ne (by decide)).trans (H.f0 h), fun h => (put_ne (by decide)).trans (H.f1 h), fun h => (put_ne (by decide)).trans (H.f2 h), fun h => (put_ne (by decide)).trans (H.f3 h), fun h => (put_ne (by decide)).trans (H.f4 h), fun h => (put_ne (by decide)).trans (H.f5 h), fun h => (put_ne (by decide)).trans (H.f6 h), fun h => (put_ne (by decide)).trans (H.f9 h), fun _ => put_same (by rw [H.sz]; decide), fun h => (put_ne (by decide)).trans (H.f11 h), fun h => (put_ne (by decide)).trans (H.f12 h), fun h => (put_ne (by decide)).trans (H.f13 h), fun h => (put_ne (by decide)).trans (H.f14 h), fun h => (put_ne (by decide)).trans (H.f17 h), fun h => (put_ne (by decide)).trans (H.f18 h), fun h => (put_ne (by decide)).trans (H.f20 h), fun h => (put_ne (by decide)).trans (H.f21 h), (H.dyn.congr (put_ne (by decide)) (put_ne (by decide)) (put_ne (by decide)) (put_ne (by decide))), H.qA, H.qB, H.qS, H.qT⟩
        · intro d a w H hk hdep
          have e10 : d 10 = true := hdep ⟨10, .data⟩ (by simp) rfl
          refine op_field 96 5 (.tmp 116) ⟨W, 0, none⟩ rfl (H.f10 e10) (fieldW W 5 w (by decide)) ?_
          exact ⟨put_size.trans H.sz, put_defers.trans H.df, fun j hj => (put_ne (by omega)).trans (H.old j hj), fun h => (put_ne (by decide)).trans (H.f0 h), fun h => (put_ne (by decide)).trans (H.f1 h), fun h => (put_ne (by decide)).trans (H.f2 h), fun h => (put_ne (by decide)).trans (H.f3 h), fun h => (put_ne (by decide)).trans (H.f4 h), fun h => (put_ne (by decide)).trans (H.f5 h), fun h => (put_ne (by decide)).trans (H.f6 h), fun h => (put_ne (by decide)).trans (H.f9 h), fun h => (put_ne (by decide)).trans (H.f10 h), fun _ => put_same (by rw [H.sz]; decide), fun h => (put_ne (by decide)).trans (H.f12 h), fun h => (put_ne (by decide)).trans (H.f13 h), fun h => (put_ne (by decide)).trans (H.f14 h), fun h => (put_ne (by decide)).trans (H.f17 h), fun h => (put_ne (by decide)).trans (H.f18 h), fun h => (put_ne (by decide)).trans (H.f20 h), fun h => (put_ne (by decide)).trans (H.f21 h), (H.dyn.congr (put_ne (by decide)) (put_ne (by decide)) (put_ne (by decide)) (put_ne (by decide))), H.qA, H.qB, H.qS, H.qT⟩
        · intro d a w H hk hdep
          have e11 : d 11 = true := hdep ⟨11, .data⟩ (by simp) rfl
          have hq : d 16 = false := by cases hq : d 16 with | false => rfl | true => exact absurd (H.qB hq).1 (by rw [hk]; decide)
          have hs0 : d 19 = false := by cases hs : d 19 with | false => rfl | true => exact absurd (H.qS hs).2 (by rw [hq]; decide)
          have hs : d 22 = false := by cases hs : d 22 with | false => rfl | true => exact absurd (H.qT hs) (by rw [hs0]; decide)
          have hc := blk_cells H.dyn.cell 5
          rw [hs] at hc
          refine op_load 94 (.tmp 117) ⟨W, 5, none⟩ rfl (H.f11 e11) (loadW 5 W x5 w (hc.trans (HCB.out _ _))).1 ?_
          exact ⟨put_size.trans H.sz, put_defers.trans H.df, fun j hj => (put_ne (by omega)).trans (H.old j hj), fun h => (put_ne (by decide)).trans (H.f0 h), fun h => (put_ne (by decide)).trans (H.f1 h), fun h => (put_ne (by decide)).trans (H.f2 h), fun h => (put_ne (by decide)).trans (H.f3 h), fun h => (put_ne (by decide)).trans (H.f4 h), fun h => (put_ne (by decide)).trans (H.f5 h), fun h => (put_ne (by decide)).trans (H.f6 h), fun h => (put_ne (by decide)).trans (H.f9 h), fun h => (put_ne (by decide)).trans (H.f10 h), fun h => (put_ne (by decide)).trans (H.f11 h), fun _ => put_same (by rw [H.sz]; decide), fun h => (put_ne (by decide)).trans (H.f13 h), fun h => (put_ne (by decide)).trans (H.f14 h), fun h => (put_ne (by decide)).trans (H.f17 h), fun h => (put_ne (by decide)).trans (H.f18 h), fun h => (put_ne (by decide)).trans (H.f20 h), fun h => (put_ne (by decide)).trans (H.f21 h), (H.dyn.congr (put_ne (by decide)) (put_ne (by decide)) (put_ne (by decide)) (put_ne (by decide))), H.qA, fun h => ⟨rfl, (H.qB h).2.1, (H.qB h).2.2⟩, H.qS, H.qT⟩
        · intro d a w H hk hdep
          refine op_move (.tmp 12) rfl ((H.old 12 (by omega)).trans EB.out) ?_
          exact ⟨put_size.trans H.sz, put_defers.trans H.df, fun j hj => (put_ne (by omega)).trans (H.old j hj), fun h => (put_ne (by decide)).trans (H.f0 h), fun h => (put_ne (by decide)).trans (H.f1 h), fun h => (put_ne (by decide)).trans (H.f2 h), fun h => (put_ne (by decide)).trans (H.f3 h), fun h => (put_ne (by decide)).trans (H.f4 h), fun h => (put_ne (by decide)).trans (H.f5 h), fun h => (put_ne (by decide)).trans (H.f6 h), fun h => (put_ne (by decide)).trans (H.f9 h), fun h => (put_ne (by decide)).trans (H.f10 h), fun h => (put_ne (by decide)).trans (H.f11 h), fun h => (put_ne (by decide)).trans (H.f12 h), fun _ => put_same (by rw [H.sz]; decide), fun h => (put_ne (by decide)).trans (H.f14 h), fun h => (put_ne (by decide)).trans (H.f17 h), fun h => (put_ne (by decide)).trans (H.f18 h), fun h => (put_ne (by decide)).trans (H.f20 h), fun h => (put_ne (by decide)).trans (H.f21 h), (H.dyn.congr (put_ne (by decide)) (put_ne (by decide)) (put_ne (by decide)) (put_ne (by decide))), H.qA, H.qB, H.qS, H.qT⟩
        · intro d a w H hk hdep
          have e13 : d 13 = true := hdep ⟨13, .data⟩ (by simp) rfl
          refine op_un .neg 3 (.tmp 119) (.int .i64 aa) rfl (H.f13 e13) (HNEG.out w) ?_
          exact ⟨put_size.trans H.sz, put_defers.trans H.df, fun j hj => (put_ne (by omega)).trans (H.old j hj), fun h => (put_ne (by decide)).trans (H.f0 h), fun h => (put_ne (by decide)).trans (H.f1 h), fun h => (put_ne (by decide)).trans (H.f2 h), fun h => (put_ne (by decide)).trans (H.f3 h), fun h => (put_ne (by decide)).trans (H.f4 h), fun h => (put_ne (by decide)).trans (H.f5 h), fun h => (put_ne (by decide)).trans (H.f6 h), fun h => (put_ne (by decide)).trans (H.f9 h), fun h => (put_ne (by decide)).trans (H.f10 h), fun h => (put_ne (by decide)).trans (H.f11 h), fun h => (put_ne (by decide)).trans (H.f12 h), fun h => (put_ne (by decide)).trans (H.f13 h), fun _ => put_same (by rw [H.sz]; decide), fun h => (put_ne (by decide)).trans (H.f17 h), fun h => (put_ne (by decide)).trans (H.f18 h), fun h => (put_ne (by decide)).trans (H.f20 h), fun h => (put_ne (by decide)).trans (H.f21 h), (H.dyn.congr (put_ne (by decide)) (put_ne (by decide)) (put_ne (by decide)) (put_ne (by decide))), H.qA, H.qB, H.qS, H.qT⟩
        · intro d a w H hk hdep
          have e14 : d 14 = true := hdep ⟨14, .data⟩ (by simp) rfl
          refine op_build1 94 (.tmp 120) (.int .i64 (-aa)) rfl (H.f14 e14) (HBB.out w) ?_
          exact ⟨put_size.trans H.sz, put_defers.trans H.df, fun j hj => (put_ne (by omega)).trans (H.old j hj), fun h => (put_ne (by decide)).trans (H.f0 h), fun h => (put_ne (by decide)).trans (H.f1 h), fun h => (put_ne (by decide)).trans (H.f2 h), fun h => (put_ne (by decide)).trans (H.f3 h), fun h => (put_ne (by decide)).trans (H.f4 h), fun h => (put_ne (by decide)).trans (H.f5 h), fun h => (put_ne (by decide)).trans (H.f6 h), fun h => (put_ne (by decide)).trans (H.f9 h), fun h => (put_ne (by decide)).trans (H.f10 h), fun h => (put_ne (by decide)).trans (H.f11 h), fun h => (put_ne (by decide)).trans (H.f12 h), fun h => (put_ne (by decide)).trans (H.f13 h), fun h => (put_ne (by decide)).trans (H.f14 h), fun h => (put_ne (by decide)).trans (H.f17 h), fun h => (put_ne (by decide)).trans (H.f18 h), fun h => (put_ne (by decide)).trans (H.f20 h), fun h => (put_ne (by decide)).trans (H.f21 h), ((H.dyn.allocB).congr (put_ne (by decide)) (put_ne (by decide)) (put_same (by rw [H.sz]; decide)) (put_ne (by decide))), H.qA, fun h => ⟨(H.qB h).1, rfl, (H.qB h).2.2⟩, H.qS, H.qT⟩
        · intro d a w H hk hdep
          have e12 : d 12 = true := hdep ⟨12, .data⟩ (by simp) rfl
          have e15 : d 15 = true := hdep ⟨15, .data⟩ (by simp) rfl
          have e8 : d 8 = true := hdep ⟨8, .chain⟩ (by simp) rfl
          have hB : d 16 = false := hk
          have hs0 : d 19 = false := by cases hs : d 19 with | false => rfl | true => exact absurd (H.qS hs).2 (by rw [hB]; decide)
          have hs1 : d 22 = false := by cases hs : d 22 with | false => rfl | true => exact absurd (H.qT hs) (by rw [hs0]; decide)
          have hr := H.dyn.rB
          rw [hk] at hr
          simp only [Bool.false_eq_true, if_false] at hr
          obtain ⟨b, hb1, hb2, hb3⟩ := H.dyn.bB e15
          have hsl : Sl tInt w (fun k => some k ≠ (x5).ownBlock ∧ k < w.heap.size) (some ⟨b, 0, none⟩) [(-aa)] := HVIB.out hb3 ⟨fun e => by have := HCC.out.lB b e.symm; omega, blk_lt hb3⟩
          refine op_app (T := tInt) rfl (.tmp 118) (.tmp 121) 94 rfl iI (.int .i64 0) 8 Tryz.underlying94 hiI hiI0 hiI1 hiI2 rfl (by decide) int_one w0.heap.size x5 L5 (H.f12 e12) hr ⟨b, 0, none⟩ 1 [(-aa)] hb1 hsl (HLB.out.1) (HLB.out.2) (Nat.le_trans HCC.out.bl H.dyn.size) ?_
          intro v9 w9 hown hg hat
          have hd := H.dyn
          rw [show d 16 = false from hk, hs1] at hd
          have hd2 := R2I.appB HCC.out balV_Free hd hown hg hat
          have hd3 : R2I tBalV tInt 96 (fun y z => wkC c g p ma ms mc y z x6 x7) w7 W w0.heap.size x4 x5 vs L5 (Value.slice ta tl.length tc) (-aa) (Value.slice ta tl.length tc) (.int .i64 (-aa)) (updD d 16 7) (updD d 16 8) (updD d 16 15) (updD d 16 16) (updD d 16 19) (updD d 16 22) (a.eval (.tmp 113)) (a.eval (.tmp 114)) (a.eval (.tmp 121)) v9 w9 := by
            rw [show updD d 16 7 = d 7 from rfl, show updD d 16 8 = d 8 from rfl, show updD d 16 15 = d 15 from rfl, show updD d 16 16 = true from rfl, show updD d 16 19 = d 19 from rfl, show updD d 16 22 = false from hs1]
            exact hd2
          exact ⟨put_size.trans H.sz, put_defers.trans H.df, fun j hj => (put_ne (by omega)).trans (H.old j hj), fun h => (put_ne (by decide)).trans (H.f0 h), fun h => (put_ne (by decide)).trans (H.f1 h), fun h => (put_ne (by decide)).trans (H.f2 h), fun h => (put_ne (by decide)).trans (H.f3 h), fun h => (put_ne (by decide)).trans (H.f4 h), fun h => (put_ne (by decide)).trans (H.f5 h), fun h => (put_ne (by decide)).trans (H.f6 h), fun h => (put_ne (by decide)).trans (H.f9 h), fun h => (put_ne (by decide)).trans (H.f10 h), fun h => (put_ne (by decide)).trans (H.f11 h), fun h => (put_ne (by decide)).trans (H.f12 h), fun h => (put_ne (by decide)).trans (H.f13 h), fun h => (put_ne (by decide)).trans (H.f14 h), fun h => (put_ne (by decide)).trans (H.f17 h), fun h => (put_ne (by decide)).trans (H.f18 h), fun h => (put_ne (by decide)).trans (H.f20 h), fun h => (put_ne (by decide)).trans (H.f21 h), (hd3.congr (put_ne (by decide)) (put_ne (by decide)) (put_ne (by decide)) (put_same (by rw [H.sz]; decide))), H.qA, fun _ => ⟨e12, e15, e8⟩, fun h => ⟨(H.qS h).1, rfl⟩, H.qT⟩
        · intro d a w H hk hdep
          have e0 : d 0 = true := hdep ⟨0, .data⟩ (by simp) rfl
          refine op_nil (.tmp 106) ⟨W, 0, none⟩ rfl (H.f0 e0) ?_
          exact ⟨put_size.trans H.sz, put_defers.trans H.df, fun j hj => (put_ne (by omega)).trans (H.old j hj), fun h => (put_ne (by decide)).trans (H.f0 h), fun h => (put_ne (by decide)).trans (H.f1 h), fun h => (put_ne (by decide)).trans (H.f2 h), fun h => (put_ne (by decide)).trans (H.f3 h), fun h => (put_ne (by decide)).trans (H.f4 h), fun h => (put_ne (by decide)).trans (H.f5 h), fun h => (put_ne (by decide)).trans (H.f6 h), fun h => (put_ne (by decide)).trans (H.f9 h), fun h => (put_ne (by decide)).trans (H.f10 h), fun h => (put_ne (by decide)).trans (H.f11 h), fun h => (put_ne (by decide)).trans (H.f12 h), fun h => (put_ne (by decide)).trans (H.f13 h), fun h => (put_ne (by decide)).trans (H.f14 h), fun _ => put_same (by rw [H.sz]; decide), fun h => (put_ne (by decide)).trans (H.f18 h), fun h => (put_ne (by decide)).trans (H.f20 h), fun h => (put_ne (by decide)).trans (H.f21 h), (H.dyn.congr (put_ne (by decide)) (put_ne (by decide)) (put_ne (by decide)) (put_ne (by decide))), H.qA, H.qB, H.qS, H.qT⟩
        · intro d a w H hk hdep
          have e17 : d 17 = true := hdep ⟨17, .data⟩ (by simp) rfl
          refine op_field 96 4 (.tmp 123) ⟨W, 0, none⟩ rfl (H.f17 e17) (fieldW W 4 w (by decide)) ?_
          exact ⟨put_size.trans H.sz, put_defers.trans H.df, fun j hj => (put_ne (by omega)).trans (H.old j hj), fun h => (put_ne (by decide)).trans (H.f0 h), fun h => (put_ne (by decide)).trans (H.f1 h), fun h => (put_ne (by decide)).trans (H.f2 h), fun h => (put_ne (by decide)).trans (H.f3 h), fun h => (put_ne (by decide)).trans (H.f4 h), fun h => (put_ne (by decide)).trans (H.f5 h), fun h => (put_ne (by decide)).trans (H.f6 h), fun h => (put_ne (by decide)).trans (H.f9 h), fun h => (put_ne (by decide)).trans (H.f10 h), fun h => (put_ne (by decide)).trans (H.f11 h), fun h => (put_ne (by decide)).trans (H.f12 h), fun h => (put_ne (by decide)).trans (H.f13 h), fun h => (put_ne (by decide)).trans (H.f14 h), fun h => (put_ne (by decide)).trans (H.f17 h), fun _ => put_same (by rw [H.sz]; decide), fun h => (put_ne (by decide)).trans (H.f20 h), fun h => (put_ne (by decide)).trans (H.f21 h), (H.dyn.congr (put_ne (by decide)) (put_ne (by decide)) (put_ne (by decide)) (put_ne (by decide))), H.qA, H.qB, H.qS, H.qT⟩
        · intro d a w H hk hdep
          have e18 : d 18 = true := hdep ⟨18, .data⟩ (by simp) rfl
          have e8 : d 8 = true := hdep ⟨8, .data⟩ (by simp) rfl
          have e16 : d 16 = true := hdep ⟨16, .chain⟩ (by simp) rfl
          have hr := H.dyn.rA
          rw [e8] at hr
          simp only [if_true] at hr
          obtain ⟨ya, yc, hy, _⟩ := hr.slice
          have hs1 : d 22 = false := by cases hs : d 22 with | false => rfl | true => exact absurd (H.qT hs) (by rw [hk]; decide)
          refine op_store 40 (.tmp 124) (.tmp 114) ⟨W, 4, none⟩ (.slice ya (vs ++ [(Value.slice ta tl.length tc)]).length yc) rfl rfl (H.f18 e18) hy (storeW W 4 ya (vs ++ [(Value.slice ta tl.length tc)]).length yc w H.dyn.cell (Nat.lt_of_lt_of_le (by decide) (HSZ.out _ _))).2 ?_
          rw [← hy]
          have hd := H.dyn
          rw [show d 19 = false from hk, e8] at hd
          have hd2 := R2I.storeA HCC.out balV_Free int_Free HIA.out hd
          have hd3 : R2I tBalV tInt 96 (fun y z => wkC c g p ma ms mc y z x6 x7) w7 W w0.heap.size x4 x5 vs L5 (Value.slice ta tl.length tc) (-aa) (Value.slice ta tl.length tc) (.int .i64 (-aa)) (updD d 19 7) (updD d 19 8) (updD d 19 15) (updD d 19 16) (updD d 19 19) (updD d 19 22) (a.eval (.tmp 113)) (a.eval (.tmp 114)) (a.eval (.tmp 121)) (a.eval (.tmp 122)) (w.setCell ⟨W, 4, none⟩ (a.eval (.tmp 114))) := by
            rw [show updD d 19 7 = d 7 from rfl, show updD d 19 8 = true from e8, show updD d 19 15 = d 15 from rfl, show updD d 19 16 = d 16 from rfl, show updD d 19 19 = true from rfl, show updD d 19 22 = d 22 from rfl]
            exact hd2
          exact ⟨H.sz, H.df, H.old, H.f0, H.f1, H.f2, H.f3, H.f4, H.f5, H.f6, H.f9, H.f10, H.f11, H.f12, H.f13, H.f14, H.f17, H.f18, H.f20, H.f21, hd3, H.qA, H.qB, fun _ => ⟨e8, e16⟩, fun h => rfl⟩
        · intro d a w H hk hdep
          have e1 : d 1 = true := hdep ⟨1, .data⟩ (by simp) rfl
          refine op_nil (.tmp 107) ⟨W, 0, none⟩ rfl (H.f1 e1) ?_
          exact ⟨put_size.trans H.sz, put_defers.trans H.df, fun j hj => (put_ne (by omega)).trans (H.old j hj), fun h => (put_ne (by decide)).trans (H.f0 h), fun h => (put_ne (by decide)).trans (H.f1 h), fun h => (put_ne (by decide)).trans (H.f2 h), fun h => (put_ne (by decide)).trans (H.f3 h), fun h => (put_ne (by decide)).trans (H.f4 h), fun h => (put_ne (by decide)).trans (H.f5 h), fun h => (put_ne (by decide)).trans (H.f6 h), fun h => (put_ne (by decide)).trans (H.f9 h), fun h => (put_ne (by decide)).trans (H.f10 h), fun h => (put_ne (by decide)).trans (H.f11 h), fun h => (put_ne (by decide)).trans (H.f12 h), fun h => (put_ne (by decide)).trans (H.f13 h), fun h => (put_ne (by decide)).trans (H.f14 h), fun h => (put_ne (by decide)).trans (H.f17 h), fun h => (put_ne (by decide)).trans (H.f18 h), fun _ => put_same (by rw [H.sz]; decide), fun h => (put_ne (by decide)).trans (H.f21 h), (H.dyn.congr (put_ne (by decide)) (put_ne (by decide)) (put_ne (by decide)) (put_ne (by decide))), H.qA, H.qB, H.qS, H.qT⟩
        · intro d a w H hk hdep
          have e20 : d 20 = true := hdep ⟨20, .data⟩ (by simp) rfl
          refine op_field 96 5 (.tmp 125) ⟨W, 0, none⟩ rfl (H.f20 e20) (fieldW W 5 w (by decide)) ?_
          exact ⟨put_size.trans H.sz, put_defers.trans H.df, fun j hj => (put_ne (by omega)).trans (H.old j hj), fun h => (put_ne (by decide)).trans (H.f0 h), fun h => (put_ne (by decide)).trans (H.f1 h), fun h => (put_ne (by decide)).trans (H.f2 h), fun h => (put_ne (by decide)).trans (H.f3 h), fun h => (put_ne (by decide)).trans (H.f4 h), fun h => (put_ne (by decide)).trans (H.f5 h), fun h => (put_ne (by decide)).trans (H.f6 h), fun h => (put_ne (by decide)).trans (H.f9 h), fun h => (put_ne (by decide)).trans (H.f10 h), fun h => (put_ne (by decide)).trans (H.f11 h), fun h => (put_ne (by decide)).trans (H.f12 h), fun h => (put_ne (by decide)).trans (H.f13 h), fun h => (put_ne (by decide)).trans (H.f14 h), fun h => (put_ne (by decide)).trans (H.f17 h), fun h => (put_ne (by decide)).trans (H.f18 h), fun h => (put_ne (by decide)).trans (H.f20 h), fun _ => put_same (by rw [H.sz]; decide), (H.dyn.congr (put_ne (by decide)) (put_ne (by decide)) (put_ne (by decide)) (put_ne (by decide))), H.qA, H.qB, H.qS, H.qT⟩
        · intro d a w H hk hdep
          have e21 : d 21 = true := hdep ⟨21, .data⟩ (by simp) rfl
          have e16 : d 16 = true := hdep ⟨16, .data⟩ (by simp) rfl
          have e19 : d 19 = true := hdep ⟨19, .chain⟩ (by simp) rfl
          have hr := H.dyn.rB
          rw [e16] at hr
          simp only [if_true] at hr
          obtain ⟨ya, yc, hy, _⟩ := hr.slice
          refine op_store 94 (.tmp 126) (.tmp 122) ⟨W, 5, none⟩ (.slice ya (L5 ++ [(-aa)]).length yc) rfl rfl (H.f21 e21) hy (storeW W 5 ya (L5 ++ [(-aa)]).length yc w H.dyn.cell (Nat.lt_of_lt_of_le (by decide) (HSZ.out _ _))).1 ?_
          rw [← hy]
          have hd := H.dyn
          rw [show d 22 = false from hk, e16] at hd
          have hd2 := R2I.storeB HCC.out balV_Free int_Free HIB.out hd
          have hd3 : R2I tBalV tInt 96 (fun y z => wkC c g p ma ms mc y z x6 x7) w7 W w0.heap.size x4 x5 vs L5 (Value.slice ta tl.length tc) (-aa) (Value.slice ta tl.length tc) (.int .i64 (-aa)) (updD d 22 7) (updD d 22 8) (updD d 22 15) (updD d 22 16) (updD d 22 19) (updD d 22 22) (a.eval (.tmp 113)) (a.eval (.tmp 114)) (a.eval (.tmp 121)) (a.eval (.tmp 122)) (w.setCell ⟨W, 5, none⟩ (a.eval (.tmp 122))) := by
            rw [show updD d 22 7 = d 7 from rfl, show updD d 22 8 = d 8 from rfl, show updD d 22 15 = d 15 from rfl, show updD d 22 16 = true from e16, show updD d 22 19 = d 19 from rfl, show updD d 22 22 = true from rfl]
            exact hd2
          exact ⟨H.sz, H.df, H.old, H.f0, H.f1, H.f2, H.f3, H.f4, H.f5, H.f6, H.f9, H.f10, H.f11, H.f12, H.f13, H.f14, H.f17, H.f18, H.f20, H.f21, hd3, H.qA, H.qB, H.qS, fun _ => e19⟩
end Go.Proofs.YtgggpaacagbmcaaGreat
