/- group: Make. -/
import Derived.Test.YtgggpaacagbmcaaGreatX36GroupTells
import Derived.Test.YtgggpaacagbmcaaGreatX37GroupTells
set_option linter.unusedVariables false
set_option linter.unusedSimpArgs false
namespace Go.Proofs.YtgggpaacagbmcaaGreat
open Go.RowKit Go.Maps Go.Deep

def makT (r : List Ac) (ms : List Mb) (J : List Jn) (p : Int) : GrpR × Int := if grpB ms && monthOk p then grpT r ms J p else (grp0, 1)
theorem gck_all : ∀ (ms : List Mb) (la : Int), gck la ms = true → ∀ m ∈ ms, ∃ lb, okM lb m = true
  | [], _, _, m, hm => by simp at hm
  | x :: r, la, h, m, hm => by
    unfold gck at h
    rw [Bool.and_eq_true] at h
    rcases List.mem_cons.1 hm with rfl | hm
    · exact ⟨la, h.1⟩
    · exact gck_all r x.en h.2 m hm
theorem grpB_mem {ms : List Mb} (h : grpB ms = true) {m : Mb} (hm : m ∈ ms) : mbB m = true ∧ 0 ≤ m.sh ∧ m.sh ≤ 10000 := by
  unfold grpB at h
  simp only [Bool.and_eq_true] at h
  obtain ⟨la, h1⟩ := gck_all ms 0 h.2.2 m hm
  unfold okM at h1
  simp at h1
  exact ⟨h1.2.2.2.2, h1.2.2.1, h1.2.2.2.1⟩
theorem memsE_at (r : List Ac) (ms : List Mb) (J : List Jn) (p : Int) : ∀ (l : List Mb) (n : Nat) (hn : n < l.length), (∀ m ∈ l.take n, memE r ms J p m = 0) → memE r ms J p l[n] ≠ 0 → memsE r ms J p l = memE r ms J p l[n]
  | [], n, hn, _, _ => by simp at hn
  | x :: t, 0, hn, _, h => by
    unfold memsE
    simp only [List.getElem_cons_zero] at h ⊢
    rw [if_pos (by simpa using h)]
  | x :: t, n + 1, hn, h0, h => by
    unfold memsE
    have hx : memE r ms J p x = 0 := h0 x (by simp)
    rw [hx]
    simp only [bne_self_eq_false, Bool.false_eq_true, if_false, List.getElem_cons_succ] at h ⊢
    exact memsE_at r ms J p t n (by simpa using hn) (fun m hm => h0 m (by simp [hm])) h
theorem memsE_none (r : List Ac) (ms : List Mb) (J : List Jn) (p : Int) : ∀ (l : List Mb), (∀ m ∈ l, memE r ms J p m = 0) → memsE r ms J p l = 0
  | [], _ => rfl
  | x :: t, h => by
    unfold memsE
    rw [h x (by simp)]
    exact memsE_none r ms J p t (fun m hm => h m (by simp [hm]))
theorem chk_pe {j : Jn} (h : chk j = 0) : 0 ≤ j.pe := by
  have hf : frontBad j = false := by
    cases hh : frontBad j with
    | false => rfl
    | true => simp [chk, hh] at h
  obtain ⟨_, _, _, _, h5, _⟩ := front_ok hf
  unfold monthOk at h5
  simp at h5
  exact h5.1
theorem memP_len {J : List Jn} (hV : ValJ J) (hl : J.length ≤ 100) (ms : List Mb) (p : Int) (m : Mb) (r : List Ac) : (memP r ms J p m).l.length ≤ 800 := by
  have h0 : (memP r ms J p m).l = trnL r m (linT ms J m.en p).1.1 := rfl
  rw [h0]
  refine Nat.le_trans (trnL_len _ _ _) ?_
  have q4 : (linesOf J m.en 0 p).length ≤ 8 * J.length := by
    unfold linesOf
    have z1 := flat8 (l := J.filter (cnt m.en 0 p)) (fun x hx => hV.good x (List.mem_filter.1 hx).1)
    have z2 := List.length_filter_le (cnt m.en 0 p) J
    omega
  have q1 := tellS_len (accS [] (outL ms (linesOf J m.en 0 p)))
  have q2 := accS_len (outL ms (linesOf J m.en 0 p)) []
  have q3 := outL_len ms (linesOf J m.en 0 p)
  simp only [List.length_nil] at q2
  unfold linT
  split
  · simp
  · split
    · simp
    · simp only
      omega
/-- the parts of the first members -/
abbrev prt (r : List Ac) (ms : List Mb) (J : List Jn) (p : Int) (n : Nat) : List Part := (ms.take n).map (memP r ms J p)
theorem prt_succ (r : List Ac) (ms : List Mb) (J : List Jn) (p : Int) (n : Nat) (hn : n < ms.length) : prt r ms J p (n + 1) = prt r ms J p n ++ [memP r ms J p ms[n]] := by
  unfold prt
  rw [List.take_succ_eq_append_getElem hn, List.map_append]
  rfl

set_option maxHeartbeats 16000000 in
set_option maxRecDepth 100000 in
theorem grMake_any {w : World} {c g : Nat} {mb : Option Nat} {r : List Ac} (hch : ChartAt w c mb r) {a : Option Addr} {cap : Nat} {J : List Jn} {F : Nat → Prop} (hbk : BookAt w g a cap J F) (hV : ValJ J) (hl : J.length ≤ 100) (p : Int) (hp : I64 p)
    (ms : List Mb) (ma : Option Addr) (mc : Nat) {G : Nat → Prop} (hms : Sl tMb w G ma ms) (hml : ms.length ≤ maxLen) :
    Calls Tryz.prog 12 #[.pointer (some ⟨c, 0, none⟩), .pointer (some ⟨g, 0, none⟩), .int .i64 p, .slice ma ms.length mc] w (GrpPost w (makT r ms J p)) := by
  have hzb := blk_new w (.cells #[.slice none 0 0, .int .i64 0, .int .i64 0, .int .i64 0, .int .i64 0, .int .i64 0, .int .i64 0] 51)
  have hB0 : Below w.heap.size w (w.alloc (.cells #[.slice none 0 0, .int .i64 0, .int .i64 0, .int .i64 0, .int .i64 0, .int .i64 0, .int .i64 0] 51)) := (Below.refl w.heap.size w).alloc (Nat.le_refl _) _
  obtain ⟨RT, hRT⟩ : ∃ t, makT r ms J p = t := ⟨_, rfl⟩
  rw [hRT]
  have HRT := Lib.hid hRT
  have HV := Lib.hid hV
  have HCH := Lib.hid hch
  have HBK := Lib.hid hbk
  have HMS := Lib.hid hms
  have HP := Lib.hid hp
  have HZ0 := Lib.hid hzb
  have HB0 := Lib.hid hB0
  have hl' : ms.length ≤ 9223372036854775807 := by unfold maxLen at hml; omega
  clear hch hbk hV hms hp hzb hB0 hRT
  go_enter Tryz.func12, Tryz.ntmps12
  go_wp2_with fail
  cases hg : grpB ms
  · have HK := Lib.hid (grCheck_any ms ma mc _ (Sl.keep (fun k hk _ => HB0.out.block k hk) HMS.out) hml)
    have HTR : Hid (RT = (grp0, 1)) := Lib.hid (by rw [← HRT.out]; unfold makT; rw [hg]; rfl)
    rw [hg] at HK
    clear hg
    refine HK.out.mono ?_
    rintro en1 w1 ⟨rfl, hb⟩
    have HZ1 := Lib.hid (blk_below HZ0.out hb)
    have HB1 := Lib.hid (belows_then HB0.out HB0.out.size hb)
    clear hb HK
    have hcz := blk_cells HZ1.out
    have hfz := blk_frz HZ1.out
    have hlz := blk_lt HZ1.out
    go_wp2_with fail
    obtain ⟨w9, hw9, h9, hs9, hk9, hb9⟩ := seven _ w.heap.size HZ1.out (.slice none 0 0) (.int .i64 0) (.int .i64 0) (.int .i64 0) (.int .i64 0) (.int .i64 0) (.int .i64 0)
    rw [hw9]
    clear hw9
    refine bodyPost_ret (v := .tuple #[.agg #[.slice none 0 0, .int .i64 0, .int .i64 0, .int .i64 0, .int .i64 0, .int .i64 0, .int .i64 0], .int .i64 1]) (results_row_tmp (fn := Tryz.f12) (p := 8) (ty := 51) rfl _ _ w.heap.size 51 _ (0, 0) _ rfl h9 Tryz.underlying51 rfl (by kernel_rfl)) rfl ?_
    rw [HTR.out]
    exact ⟨_, rfl, OwnL.nil _ _, hb9 _ _ HB1.out (Nat.le_refl _)⟩
  · have HK := Lib.hid (grCheck_any ms ma mc _ (Sl.keep (fun k hk _ => HB0.out.block k hk) HMS.out) hml)
    rw [hg] at HK
    have HG := Lib.hid hg
    clear hg
    refine HK.out.mono ?_
    rintro en1 w1 ⟨rfl, hb⟩
    have HZ1 := Lib.hid (blk_below HZ0.out hb)
    have HB1 := Lib.hid (belows_then HB0.out HB0.out.size hb)
    have HN1 := Lib.hid (blk_new w1 (.cells #[.int .i64 p] 3))
    have HZ1a := Lib.hid (blk_alloc HZ1.out (.cells #[.int .i64 p] 3))
    have HB1a := Lib.hid (HB1.out.alloc HB1.out.size (.cells #[.int .i64 p] 3))
    clear hb HK
    go_wp2_with fail
    cases hmo : monthOk p
    · have HTR : Hid (RT = (grp0, 1)) := Lib.hid (by rw [← HRT.out]; unfold makT; rw [hmo, Bool.and_false]; rfl)
      refine (term_valid_is p _ _ HN1.out HP.out hmo).mono ?_
      rintro en2 w2 ⟨rfl, hb⟩
      have HZ2 := Lib.hid (blk_below HZ1a.out hb)
      have HB2 := Lib.hid (belows_then HB1a.out HB1a.out.size hb)
      clear hb hmo
      have hcz := blk_cells HZ2.out
      have hfz := blk_frz HZ2.out
      have hlz := blk_lt HZ2.out
      go_wp2_with fail
      obtain ⟨w9, hw9, h9, hs9, hk9, hb9⟩ := seven _ w.heap.size HZ2.out (.slice none 0 0) (.int .i64 0) (.int .i64 0) (.int .i64 0) (.int .i64 0) (.int .i64 0) (.int .i64 0)
      rw [hw9]
      clear hw9
      refine bodyPost_ret (v := .tuple #[.agg #[.slice none 0 0, .int .i64 0, .int .i64 0, .int .i64 0, .int .i64 0, .int .i64 0, .int .i64 0], .int .i64 1]) (results_row_tmp (fn := Tryz.f12) (p := 8) (ty := 51) rfl _ _ w.heap.size 51 _ (0, 0) _ rfl h9 Tryz.underlying51 rfl (by kernel_rfl)) rfl ?_
      rw [HTR.out]
      exact ⟨_, rfl, OwnL.nil _ _, hb9 _ _ HB2.out (Nat.le_refl _)⟩
    · have HTR : Hid (RT = grpT r ms J p) := Lib.hid (by rw [← HRT.out]; unfold makT; rw [hmo, HG.out]; rfl)
      refine (term_valid_is p _ _ HN1.out HP.out hmo).mono ?_
      rintro en2 w2 ⟨rfl, hb⟩
      have HZ2 := Lib.hid (blk_below HZ1a.out hb)
      have HB2 := Lib.hid (belows_then HB1a.out HB1a.out.size hb)
      have hmf : ∀ (fn : Fn) (first cap : Array Value) (w : World), (Instr.makeFunc fn first cap).run Tryz.prog w = .ok (.func fn first cap) w := fun _ _ _ _ => rfl
      clear hb hmo HZ1 HB1 HN1 HZ1a HB1a HZ0 HB0
      go_wp2_with fail
      have hm9 : ms.length ≤ 9 := by
        have := HG.out
        unfold grpB at this
        simp only [Bool.and_eq_true, decide_eq_true_eq] at this
        exact this.2.1
      have HS0 : Hid (WSt w2 (w2.alloc (.cells (wkC c g p ma ms mc (.slice none 0 0) (.slice none 0 0) (.slice none 0 0) (.slice none 0 0)) 96)) w2.heap.size c g p ma ms mc (.slice none 0 0) (.slice none 0 0) (.slice none 0 0) (.slice none 0 0) [] [] [] [] []) :=
        Lib.hid ⟨blk_new w2 _, (Below.refl _ _).alloc (Nat.le_refl _) _, Nat.le_refl _, OwnL.nil _ _, OwnL.nil _ _, OwnL.nil _ _, OwnL.nil _ _, .inl rfl, .inl rfl, .inl rfl, Lots.nil _ _⟩
      have HCH2 := Lib.hid (HCH.out.below HB2.out)
      have HBK2 := Lib.hid (HBK.out.below HB2.out)
      have HMS2 := Lib.hid (Sl.keep (fun k hk _ => HB2.out.block k hk) HMS.out)
      have HPE : Hid (∀ x ∈ J, 0 ≤ x.pe) := Lib.hid (fun x hx => chk_pe (HV.out.ok x hx))
      have hw2 := HB2.out.size
      have hzl2 := blk_lt HZ2.out
      clear hmf HCH HBK HMS HRT
      go_loopw [43] (fun vi wr => ∃ (n : Nat) (vs : List Value) (x4 x5 x6 x7 : Value), n ≤ ms.length ∧ vi = .int .i64 n ∧ WSt w2 wr w2.heap.size c g p ma ms mc x4 x5 x6 x7 vs ((prt r ms J p n).map (·.l)) ((prt r ms J p n).map (·.plug)) ((prt r ms J p n).map (·.out)) ((prt r ms J p n).map (·.oth)) ∧ vs.length = n ∧ Hid (∀ m ∈ ms.take n, memE r ms J p m = 0)) (fun vi _ => ms.length - (intOf vi).toNat)
      case atStart => exact ⟨0, [], _, _, _, _, Nat.zero_le _, rfl, HS0.out, rfl, Lib.hid (fun m hm => by simp at hm)⟩
      case round =>
        obtain ⟨n, vs, x4, x5, x6, x7, hn, rfl, hS, hvn, hz0⟩ := hrel
        have HS := Lib.hid hS
        clear hS
        by_cases hlt : n < ms.length
        · obtain ⟨ad, rfl, _, hadl, hc0, hc1, hc2, hc3, hc4, _⟩ := mb_at (Sl.keep (fun k hk _ => HS.out.bel.block k hk) HMS2.out) n hlt
          obtain ⟨g1, g2, g3⟩ := grpB_mem HG.out (List.getElem_mem hlt)
          have HPS := Lib.hid (prt_succ r ms J p n hlt)
          have HEA := Lib.hid (fun h => memsE_at r ms J p ms n hlt hz0.out h)
          have HZN := Lib.hid (fun (h : memE r ms J p ms[n] = 0) => (fun m hm => by
            rw [List.take_succ_eq_append_getElem hlt] at hm
            rcases List.mem_append.1 hm with h1 | h1
            · exact hz0.out m h1
            · rw [List.mem_singleton.1 h1]; exact h : ∀ m ∈ ms.take (n + 1), memE r ms J p m = 0))
          have hlen : (prt r ms J p n).length = n := by rw [List.length_map, List.length_take]; omega
          have HMB := Lib.hid (grMember_any (HS.out.call ((Below.refl wr.heap.size wr).alloc (Nat.le_refl _) (.cells #[.int .i64 ms[n].en, .int .i64 ms[n].sh, .int .i64 ms[n].cl, .int .i64 ms[n].av, .int .i64 ms[n].ol] 72))) HMS2.out hml HCH2.out HBK2.out hl HV.out.good HPE.out ms[n] g1 ⟨g2, g3⟩ (linW_is ms ms[n].en p (linesOf_amt HV.out _ _ _) (linesOf_len HV.out.good (by omega) _ _ _)) ⟨by omega, by rw [List.length_map]; omega, by rw [List.length_map]; omega, by rw [List.length_map]; omega⟩)
          obtain ⟨P, hP⟩ : ∃ P, memP r ms J p ms[n] = P := ⟨_, rfl⟩
          obtain ⟨E, hE⟩ : ∃ E, memE r ms J p ms[n] = E := ⟨_, rfl⟩
          rw [hP] at HPS HMB
          rw [hE] at HEA HZN HMB
          generalize ms[n] = m at *
          obtain ⟨en, sh, cl, av, ol⟩ := m
          simp only at hc0 hc1 hc2 hc3 hc4
          clear g1 g2 g3 hP hE hlen
          go_wp2_with fail
          refine HMB.out.mono ?_
          rintro en3 w3 ⟨rfl, hbel, hst⟩
          have HST := Lib.hid hst
          have HZ3 := Lib.hid (blk_below HZ2.out hbel)
          have HB3 := Lib.hid (HB2.out.trans (hbel.mono hw2))
          clear hst hbel HMB hc0 hc1 hc2 hc3 hc4 hadl
          cases q1 : E == 0
          · have hne : E ≠ 0 := by simpa using q1
            have hq2 : (E != 0) = true := by simpa using q1
            have HTE : Hid (RT = (grp0, E)) := Lib.hid (by rw [HTR.out]; unfold grpT; rw [HEA.out hne, if_pos hq2])
            clear q1 hne
            have hcz := blk_cells HZ3.out
            have hfz := blk_frz HZ3.out
            have hlz := blk_lt HZ3.out
            go_wp2_with fail
            obtain ⟨w9, hw9, h9, hs9, hk9, hb9⟩ := seven _ w.heap.size HZ3.out (.slice none 0 0) (.int .i64 0) (.int .i64 0) (.int .i64 0) (.int .i64 0) (.int .i64 0) (.int .i64 0)
            rw [hw9]
            clear hw9
            refine bodyPost_ret (v := .tuple #[.agg #[.slice none 0 0, .int .i64 0, .int .i64 0, .int .i64 0, .int .i64 0, .int .i64 0, .int .i64 0], .int .i64 E]) (results_row_tmp (fn := Tryz.f12) (p := 8) (ty := 51) rfl _ _ w.heap.size 51 _ (0, 0) _ rfl h9 Tryz.underlying51 rfl (by kernel_rfl)) rfl ?_
            rw [HTE.out]
            exact ⟨_, rfl, OwnL.nil _ _, hb9 _ _ HB3.out (Nat.le_refl _)⟩
          · obtain rfl : E = 0 := by simpa using q1
            clear q1
            obtain ⟨y4, y5, y6, y7, v, hst⟩ := HST.out rfl
            have HSN : Hid (WSt w2 w3 w2.heap.size c g p _ ms mc y4 y5 y6 y7 (vs ++ [v]) ((prt r ms J p (n + 1)).map (·.l)) ((prt r ms J p (n + 1)).map (·.plug)) ((prt r ms J p (n + 1)).map (·.out)) ((prt r ms J p (n + 1)).map (·.oth))) := Lib.hid (by rw [HPS.out]; simp only [List.map_append, List.map_cons, List.map_nil]; exact hst)
            clear hst
            go_wp2_with fail
            go_roundw
            case rel => exact ⟨n + 1, _, _, _, _, _, by omega, by go_num, HSN.out, by first | (rw [List.length_append, hvn]; rfl) | (rw [List.length_append]; rfl), Lib.hid (by first | exact HZN.out rfl | exact HZN.out trivial)⟩
            case measure => simp [intOf]; omega
        · have hnm : n = ms.length := by omega
          have hall : ∀ m ∈ ms, memE r ms J p m = 0 := fun m hm => hz0.out m (by rw [List.take_of_length_le (by omega)]; exact hm)
          have hpr : prt r ms J p n = ms.map (memP r ms J p) := by unfold prt; rw [List.take_of_length_le (by omega)]
          have HPR := Lib.hid hpr
          have HTE : Hid (RT = resT r (ms.map (memP r ms J p))) := Lib.hid (by rw [HTR.out]; unfold grpT resT; rw [memsE_none r ms J p ms hall]; rfl)
          have HRS := Lib.hid (grResult_any HS.out HCH2.out (fun P hP => by
            obtain ⟨m, hm, rfl⟩ := List.mem_map.1 hP
            exact memP_len HV.out hl ms p m r) (by rw [List.length_map, List.length_take]; omega))
          rw [hpr, ← HTE.out] at HRS
          clear hnm hall hpr hz0 HTE
          obtain ⟨⟨bl, pl, ou, ot, ow, od, on⟩, er⟩ := RT
          go_wp2_with fail
          refine HRS.out.mono ?_
          rintro en3 w3 ⟨v, rfl, ho, hb⟩
          have HZ3 := Lib.hid (blk_below (blk_below HZ2.out HS.out.bel) hb)
          have HB3 := Lib.hid ((HB2.out.trans (HS.out.bel.mono hw2)).trans (hb.mono (Nat.le_trans hw2 HS.out.bel.size)))
          have HO3 := Lib.hid (ho.mono (Nat.le_trans hw2 HS.out.bel.size))
          have hcz := blk_cells HZ3.out
          have hfz := blk_frz HZ3.out
          have hlz := blk_lt HZ3.out
          obtain ⟨ba, bc, rfl, -, -, -⟩ := ho.slice
          clear ho hb HRS
          go_wp2_with fail
          obtain ⟨w9, hw9, h9, hs9, hk9, hb9⟩ := seven _ w.heap.size HZ3.out (.slice ba bl.length bc) (.int .i64 pl) (.int .i64 ou) (.int .i64 ot) (.int .i64 ow) (.int .i64 od) (.int .i64 on)
          rw [hw9]
          clear hw9
          refine bodyPost_ret (v := .tuple #[.agg #[.slice ba bl.length bc, .int .i64 pl, .int .i64 ou, .int .i64 ot, .int .i64 ow, .int .i64 od, .int .i64 on], .int .i64 er]) (results_row_tmp (fn := Tryz.f12) (p := 8) (ty := 51) rfl _ _ w.heap.size 51 _ (0, 0) _ rfl h9 Tryz.underlying51 rfl (by kernel_rfl)) rfl ?_
          exact ⟨_, rfl, HO3.out.keepF bal_Free (fun k hk => hk9 k (HO3.out.off HZ3.out (by decide) k hk)), hb9 _ _ HB3.out (Nat.le_refl _)⟩
end Go.Proofs.YtgggpaacagbmcaaGreat
