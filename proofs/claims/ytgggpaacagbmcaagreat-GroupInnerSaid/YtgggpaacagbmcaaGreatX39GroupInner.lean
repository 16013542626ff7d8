/- group: Make. -/
import Derived.Test.YtgggpaacagbmcaaGreatX37GroupInner
import Derived.Test.YtgggpaacagbmcaaGreatX38GroupInner
import Derived.Test.YtgggpaacagbmcaaGreatX22GroupInner
import Derived.Test.YtgggpaacagbmcaaGreatX23GroupInner
import Derived.Test.YtgggpaacagbmcaaGreatX14GroupInner
import Derived.Test.YtgggpaacagbmcaaGreatX15GroupInner
import Derived.Test.YtgggpaacagbmcaaGreatX19GroupInner
set_option linter.unusedVariables false
set_option linter.unusedSimpArgs false
namespace Go.Proofs.YtgggpaacagbmcaaGreat
open Go.RowKit Go.Maps Go.Deep

def makT (r : List Ac) (ms : List Mb) (J : List Jn) (p : Int) : GrpR × Int := if grpB ms && monthOk p then grpT r ms J p else (grp0, 1)
theorem gck_all : ∀ (ms : List Mb) (la : Int), gck la ms = true → ∀ m ∈ ms, ∃ lb, okM lb m = true
  | [], _, _, m, hm => by simp at hm
  | x :: r, la, h, m, hm => by
    unfold gck at h
    rw [Bool.and_eq_true] at h
    rcases List.mem_cons.1 hm with rfl | hm
    · exact ⟨la, h.1⟩
    · exact gck_all r x.en h.2 m hm
theorem grpB_mem {ms : List Mb} (h : grpB ms = true) {m : Mb} (hm : m ∈ ms) : mbB m = true ∧ 0 ≤ m.sh ∧ m.sh ≤ 10000 := by
  unfold grpB at h
  simp only [Bool.and_eq_true] at h
  obtain ⟨la, h1⟩ := gck_all ms 0 h.2.2 m hm
  unfold okM at h1
  simp at h1
  exact ⟨h1.2.2.2.2, h1.2.2.1, h1.2.2.2.1⟩
theorem memsE_at (r : List Ac) (ms : List Mb) (J : List Jn) (p : Int) : ∀ (l : List Mb) (n : Nat) (hn : n < l.length), (∀ m ∈ l.take n, memE r ms J p m = 0) → memE r ms J p l[n] ≠ 0 → memsE r ms J p l = memE r ms J p l[n]
  | [], n, hn, _, _ => by simp at hn
  | x :: t, 0, hn, _, h => by
    unfold memsE
    simp only [List.getElem_cons_zero] at h ⊢
    rw [if_pos (by simpa using h)]
  | x :: t, n + 1, hn, h0, h => by
    unfold memsE
    have hx : memE r ms J p x = 0 := h0 x (by simp)
    rw [hx]
    simp only [bne_self_eq_false, Bool.false_eq_true, if_false, List.getElem_cons_succ] at h ⊢
    exact memsE_at r ms J p t n (by simpa using hn) (fun m hm => h0 m (by simp [hm])) h
theorem memsE_none (r : List Ac) (ms : List Mb) (J : List Jn) (p : Int) : ∀ (l : List Mb), (∀ m ∈ l, memE r ms J p m = 0) → memsE r ms J p l = 0
  | [], _ => rfl
  | x :: t, h => by
    unfold memsE
    rw [h x (by simp)]
    exact memsE_none r ms J p t (fun m hm => h m (by simp [hm]))
theorem chk_pe {j : Jn} (h : chk j = 0) : 0 ≤ j.pe := by
  have hf : frontBad j = false := by
    cases hh : frontBad j with
    | false => rfl
    | true => simp [chk, hh] at h
  obtain ⟨_, _, _, _, h5, _⟩ := front_ok hf
  unfold monthOk at h5
  simp at h5
  exact h5.1
theorem memP_len {J : List Jn} (hV : ValJ J) (hl : J.length ≤ 100) (ms : List Mb) (p : Int) (m : Mb) (r : List Ac) : (memP r ms J p m).l.length ≤ 800 := by
  have h0 : (memP r ms J p m).l = trnL r m (linT ms J m.en p).1.1 := rfl
  rw [h0]
  refine Nat.le_trans (trnL_len _ _ _) ?_
  have q4 : (linesOf J m.en 0 p).length ≤ 8 * J.length := by
    unfold linesOf
    have z1 := flat8 (l := J.filter (cnt m.en 0 p)) (fun x hx => hV.good x (List.mem_filter.1 hx).1)
    have z2 := List.length_filter_le (cnt m.en 0 p) J
    omega
  have q1 := tellS_len (accS [] (outL ms (linesOf J m.en 0 p)))
  have q2 := accS_len (outL ms (linesOf J m.en 0 p)) []
  have q3 := outL_len ms (linesOf J m.en 0 p)
  simp only [List.length_nil] at q2
  unfold linT
  split
  · simp
  · split
    · simp
    · simp only
      omega
/-- the parts of the first members -/
abbrev prt (r : List Ac) (ms : List Mb) (J : List Jn) (p : Int) (n : Nat) : List Part := (ms.take n).map (memP r ms J p)
theorem prt_succ (r : List Ac) (ms : List Mb) (J : List Jn) (p : Int) (n : Nat) (hn : n < ms.length) : prt r ms J p (n + 1) = prt r ms J p n ++ [memP r ms J p ms[n]] := by
  unfold prt
  rw [List.take_succ_eq_append_getElem hn, List.map_append]
  rfl

set_option maxHeartbeats 16000000 in
set_option maxRecDepth 100000 in
theorem grMake_any {w : World} {c g : Nat} {mb : Option Nat} {r : List Ac} (hch : ChartAt w c mb r) {a : Option Addr} {cap : Nat} {J : List Jn} {F : Nat → Prop} (hbk : BookAt w g a cap J F) (hV : ValJ J) (hl : J.length ≤ 100) (p : Int) (hp : I64 p)
    (ms : List Mb) (ma : Option Addr) (mc : Nat) {G : Nat → Prop} (hms : Sl tMb w G ma ms) (hml : ms.length ≤ maxLen) :
    Calls Tryz.prog 12 #[.pointer (some ⟨c, 0, none⟩), .pointer (some ⟨g, 0, none⟩), .int .i64 p, .slice ma ms.length mc] w (GrpPost w (makT r ms J p)) := by
  have hzb := blk_new w (.cells #[.slice none 0 0, .int .i64 0, .int .i64 0, .int .i64 0, .int .i64 0, .int .i64 0, .int .i64 0] 51)
  have hB0 : Below w.heap.size w (w.alloc (.cells #[.slice none 0 0, .int .i64 0, .int .i64 0, .int .i64 0, .int .i64 0, .int .i64 0, .int .i64 0] 51)) := (Below.refl w.heap.size w).alloc (Nat.le_refl _) _
  obtain ⟨RT, hRT⟩ : ∃ t, makT r ms J p = t := ⟨_, rfl⟩
  rw [hRT]
  have HRT := Lib.hid hRT
  have HV := Lib.hid hV
  have HCH := Lib.hid hch
  have HBK := Lib.hid hbk
  have HMS := Lib.hid hms
  have HP := Lib.hid hp
  have HZ0 := Lib.hid hzb
  have HB0 := Lib.hid hB0
  have hl' : ms.length ≤ 9223372036854775807 := by unfold maxLen at hml; omega
  clear hch hbk hV hms hp hzb hB0 hRT
  go_enter Tryz.func12, Tryz.ntmps12
  go_wp2_with fail
  cases hg : grpB ms
  · have HK := Lib.hid (grCheck_any ms ma mc _ (Sl.keep (fun k hk _ => HB0.out.block k hk) HMS.out) hml)
    have HTR : Hid (RT = (grp0, 1)) := Lib.hid (by rw [← HRT.out]; unfold makT; rw [hg]; rfl)
    rw [hg] at HK
    clear hg
    refine HK.out.mono ?_
    rintro en1 w1 ⟨rfl, hb⟩
    have HZ1 := Lib.hid (blk_below HZ0.out hb)
    have HB1 := Lib.hid (belows_then HB0.out HB0.out.size hb)
    clear hb HK
    have hcz := blk_cells HZ1.out
    have hfz := blk_frz HZ1.out
    have hlz := blk_lt HZ1.out
    go_wp2_with fail
    obtain ⟨w9, hw9, h9, hs9, hk9, hb9⟩ := seven _ w.heap.size HZ1.out (.slice none 0 0) (.int .i64 0) (.int .i64 0) (.int .i64 0) (.int .i64 0) (.int .i64 0) (.int .i64 0)
    rw [hw9]
    clear hw9
    refine bodyPost_ret (v := .tuple #[.agg #[.slice none 0 0, .int .i64 0, .int .i64 0, .int .i64 0, .int .i64 0, .int .i64 0, .int .i64 0], .int .i64 1]) (results_row_tmp (fn := Tryz.f12) (p := 8) (ty := 51) rfl _ _ w.heap.size 51 _ (0, 0) _ rfl h9 Tryz.underlying51 rfl (by kernel_rfl)) rfl ?_
    rw [HTR.out]
    exact ⟨_, rfl, OwnL.nil _ _, hb9 _ _ HB1.out (Nat.le_refl _)⟩
  · have HK := Lib.hid (grCheck_any ms ma mc _ (Sl.keep (fun k hk _ => HB0.out.block k hk) HMS.out) hml)
    rw [hg] at HK
    have HG := Lib.hid hg
    clear hg
    refine HK.out.mono ?_
    rintro en1 w1 ⟨rfl, hb⟩
    have HZ1 := Lib.hid (blk_below HZ0.out hb)
    have HB1 := Lib.hid (belows_then HB0.out HB0.out.size hb)
    have HN1 := Lib.hid (blk_new w1 (.cells #[.int .i64 p] 3))
    have HZ1a := Lib.hid (blk_alloc HZ1.out (.cells #[.int .i64 p] 3))
    have HB1a := Lib.hid (HB1.out.alloc HB1.out.size (.cells #[.int .i64 p] 3))
    clear hb HK
    go_wp2_with fail
    cases hmo : monthOk p
    · have HTR : Hid (RT = (grp0, 1)) := Lib.hid (by rw [← HRT.out]; unfold makT; rw [hmo, Bool.and_false]; rfl)
      refine (term_valid_is p _ _ HN1.out HP.out hmo).mono ?_
      rintro en2 w2 ⟨rfl, hb⟩
      have HZ2 := Lib.hid (blk_below HZ1a.out hb)
      have HB2 := Lib.hid (belows_then HB1a.out HB1a.out.size hb)
      clear hb hmo
      have hcz := blk_cells HZ2.out
      have hfz := blk_frz HZ2.out
      have hlz := blk_lt HZ2.out
      go_wp2_with fail
      obtain ⟨w9, hw9, h9, hs9, hk9, hb9⟩ := seven _ w.heap.size HZ2.out (.slice none 0 0) (.int .i64 0) (.int .i64 0) (.int .i64 0) (.int .i64 0) (.int .i64 0) (.int .i64 0)
      rw [hw9]
      clear hw9
      refine bodyPost_ret (v := .tuple #[.agg #[.slice none 0 0, .int .i64 0, .int .i64 0, .int .i64 0, .int .i64 0, .int .i64 0, .int .i64 0], .int .i64 1]) (results_row_tmp (fn := Tryz.f12) (p := 8) (ty := 51) rfl _ _ w.heap.size 51 _ (0, 0) _ rfl h9 Tryz.underlying51 rfl (by kernel_rfl)) rfl ?_
      rw [HTR.out]
      exact ⟨_, rfl, OwnL.nil _ _, hb9 _ _ HB2.out (Nat.le_refl _)⟩
    · have HTR : Hid (RT = grpT r ms J p) := Lib.hid (by rw [← HRT.out]; unfold makT; rw [hmo, HG.out]; rfl)
      refine (term_valid_is p _ _ HN1.out HP.out hmo).mono ?_
      rintro en2 w2 ⟨rfl, hb⟩
      have HZ2 := Lib.hid (blk_below HZ1a.out hb)
      have HB2 := Lib.hid (belows_then HB1a.out HB1a.out.size hb)
      have hmf : ∀ (fn : Fn) (first cap : Array Value) (w : World), (Instr.makeFunc fn first cap).run Tryz.prog w = .ok (.func fn first cap) w := fun _ _ _ _ => rfl
      clear hb hmo HZ1 HB1 HN1 HZ1a HB1a HZ0 HB0
      go_wp2_with fail
      have hm9 : ms.length ≤ 9 := by
        have := HG.out
        unfold grpB at this
        simp only [Bool.and_eq_true, decide_eq_true_eq] at this
        exact this.2.1
      have HS0 : Hid (WSt w2 (w2.alloc (.cells (wkC c g p ma ms mc (.slice none 0 0) (.slice none 0 0) (.slice none 0 0) (.slice none 0 0)) 96)) w2.heap.size c g p ma ms mc (.slice none 0 0) (.slice none 0 0) (.slice none 0 0) (.slice none 0 0) [] [] [] [] []) :=
        Lib.hid ⟨blk_new w2 _, (Below.refl _ _).alloc (Nat.le_refl _) _, Nat.le_refl _, OwnL.nil _ _, OwnL.nil _ _, OwnL.nil _ _, OwnL.nil _ _, .inl rfl, .inl rfl, .inl rfl, Lots.nil _ _⟩
      have HCH2 := Lib.hid (HCH.out.below HB2.out)
      have HBK2 := Lib.hid (HBK.out.below HB2.out)
      have HMS2 := Lib.hid (Sl.keep (fun k hk _ => HB2.out.block k hk) HMS.out)
      have HPE : Hid (∀ x ∈ J, 0 ≤ x.pe) := Lib.hid (fun x hx => chk_pe (HV.out.ok x hx))
      have hw2 := HB2.out.size
      have hzl2 := blk_lt HZ2.out
      clear hmf HCH HBK HMS HRT
      go_loopw [43] (fun vi wr => ∃ (n : Nat) (vs : List Value) (x4 x5 x6 x7 : Value), n ≤ ms.length ∧ vi = .int .i64 n ∧ WSt w2 wr w2.heap.size c g p ma ms mc x4 x5 x6 x7 vs ((prt r ms J p n).map (·.l)) ((prt r ms J p n).map (·.plug)) ((prt r ms J p n).map (·.out)) ((prt r ms J p n).map (·.oth)) ∧ vs.length = n ∧ Hid (∀ m ∈ ms.take n, memE r ms J p m = 0)) (fun vi _ => ms.length - (Go.RowKit.intOf vi).toNat)
      case atStart => exact ⟨0, [], _, _, _, _, Nat.zero_le _, rfl, HS0.out, rfl, Lib.hid (fun m hm => by simp at hm)⟩
      case round =>
        obtain ⟨n, vs, x4, x5, x6, x7, hn, rfl, hS, hvn, hz0⟩ := hrel
        have HS := Lib.hid hS
        clear hS
        by_cases hlt : n < ms.length
        · obtain ⟨ad, rfl, _, hadl, hc0, hc1, hc2, hc3, hc4, _⟩ := mb_at (Sl.keep (fun k hk _ => HS.out.bel.block k hk) HMS2.out) n hlt
          obtain ⟨g1, g2, g3⟩ := grpB_mem HG.out (List.getElem_mem hlt)
          have HPS := Lib.hid (prt_succ r ms J p n hlt)
          have HEA := Lib.hid (fun h => memsE_at r ms J p ms n hlt hz0.out h)
          have HZN := Lib.hid (fun (h : memE r ms J p ms[n] = 0) => (fun m hm => by
            rw [List.take_succ_eq_append_getElem hlt] at hm
            rcases List.mem_append.1 hm with h1 | h1
            · exact hz0.out m h1
            · rw [List.mem_singleton.1 h1]; exact h : ∀ m ∈ ms.take (n + 1), memE r ms J p m = 0))
          have hlen : (prt r ms J p n).length = n := by rw [List.length_map, List.length_take]; omega
          have HMB := Lib.hid (grMember_any (HS.out.call ((Below.refl wr.heap.size wr).alloc (Nat.le_refl _) (.cells #[.int .i64 ms[n].en, .int .i64 ms[n].sh, .int .i64 ms[n].cl, .int .i64 ms[n].av, .int .i64 ms[n].ol] 72))) HMS2.out hml HCH2.out HBK2.out hl HV.out.good HPE.out ms[n] g1 ⟨g2, g3⟩ (linW_is ms ms[n].en p (linesOf_amt HV.out _ _ _) (linesOf_len HV.out.good (by omega) _ _ _)) ⟨by omega, by rw [List.length_map]; omega, by rw [List.length_map]; omega, by rw [List.length_map]; omega⟩)
          obtain ⟨P, hP⟩ : ∃ P, memP r ms J p ms[n] = P := ⟨_, rfl⟩
          obtain ⟨E, hE⟩ : ∃ E, memE r ms J p ms[n] = E := ⟨_, rfl⟩
          rw [hP] at HPS HMB
          rw [hE] at HEA HZN HMB
          generalize ms[n] = m at *
          obtain ⟨en, sh, cl, av, ol⟩ := m
          simp only at hc0 hc1 hc2 hc3 hc4
          clear g1 g2 g3 hP hE hlen
          go_wp2_with fail
          refine HMB.out.mono ?_
          rintro en3 w3 ⟨rfl, hbel, hst⟩
          have HST := Lib.hid hst
          have HZ3 := Lib.hid (blk_below HZ2.out hbel)
          have HB3 := Lib.hid (HB2.out.trans (hbel.mono hw2))
          clear hst hbel HMB hc0 hc1 hc2 hc3 hc4 hadl
          cases q1 : E == 0
          · have hne : E ≠ 0 := by simpa using q1
            have hq2 : (E != 0) = true := by simpa using q1
            have HTE : Hid (RT = (grp0, E)) := Lib.hid (by rw [HTR.out]; unfold grpT; rw [HEA.out hne, if_pos hq2])
            clear q1 hne
            have hcz := blk_cells HZ3.out
            have hfz := blk_frz HZ3.out
            have hlz := blk_lt HZ3.out
            go_wp2_with fail
            obtain ⟨w9, hw9, h9, hs9, hk9, hb9⟩ := seven _ w.heap.size HZ3.out (.slice none 0 0) (.int .i64 0) (.int .i64 0) (.int .i64 0) (.int .i64 0) (.int .i64 0) (.int .i64 0)
            rw [hw9]
            clear hw9
            refine bodyPost_ret (v := .tuple #[.agg #[.slice none 0 0, .int .i64 0, .int .i64 0, .int .i64 0, .int .i64 0, .int .i64 0, .int .i64 0], .int .i64 E]) (results_row_tmp (fn := Tryz.f12) (p := 8) (ty := 51) rfl _ _ w.heap.size 51 _ (0, 0) _ rfl h9 Tryz.underlying51 rfl (by kernel_rfl)) rfl ?_
            rw [HTE.out]
            exact ⟨_, rfl, OwnL.nil _ _, hb9 _ _ HB3.out (Nat.le_refl _)⟩
          · obtain rfl : E = 0 := by simpa using q1
            clear q1
            obtain ⟨y4, y5, y6, y7, v, hst⟩ := HST.out rfl
            have HSN : Hid (WSt w2 w3 w2.heap.size c g p _ ms mc y4 y5 y6 y7 (vs ++ [v]) ((prt r ms J p (n + 1)).map (·.l)) ((prt r ms J p (n + 1)).map (·.plug)) ((prt r ms J p (n + 1)).map (·.out)) ((prt r ms J p (n + 1)).map (·.oth))) := Lib.hid (by rw [HPS.out]; simp only [List.map_append, List.map_cons, List.map_nil]; exact hst)
            clear hst
            go_wp2_with fail
            go_roundw
            case rel => exact ⟨n + 1, _, _, _, _, _, by omega, by go_num, HSN.out, by first | (rw [List.length_append, hvn]; rfl) | (rw [List.length_append]; rfl), Lib.hid (by first | exact HZN.out rfl | exact HZN.out trivial)⟩
            case measure => simp [Go.RowKit.intOf]; omega
        · have hnm : n = ms.length := by omega
          have hall : ∀ m ∈ ms, memE r ms J p m = 0 := fun m hm => hz0.out m (by rw [List.take_of_length_le (by omega)]; exact hm)
          have hpr : prt r ms J p n = ms.map (memP r ms J p) := by unfold prt; rw [List.take_of_length_le (by omega)]
          have HPR := Lib.hid hpr
          have HTE : Hid (RT = resT r (ms.map (memP r ms J p))) := Lib.hid (by rw [HTR.out]; unfold grpT resT; rw [memsE_none r ms J p ms hall]; rfl)
          have HRS := Lib.hid (grResult_any HS.out HCH2.out (fun P hP => by
            obtain ⟨m, hm, rfl⟩ := List.mem_map.1 hP
            exact memP_len HV.out hl ms p m r) (by rw [List.length_map, List.length_take]; omega))
          rw [hpr, ← HTE.out] at HRS
          clear hnm hall hpr hz0 HTE
          obtain ⟨⟨bl, pl, ou, ot, ow, od, on⟩, er⟩ := RT
          go_wp2_with fail
          refine HRS.out.mono ?_
          rintro en3 w3 ⟨v, rfl, ho, hb⟩
          have HZ3 := Lib.hid (blk_below (blk_below HZ2.out HS.out.bel) hb)
          have HB3 := Lib.hid ((HB2.out.trans (HS.out.bel.mono hw2)).trans (hb.mono (Nat.le_trans hw2 HS.out.bel.size)))
          have HO3 := Lib.hid (ho.mono (Nat.le_trans hw2 HS.out.bel.size))
          have hcz := blk_cells HZ3.out
          have hfz := blk_frz HZ3.out
          have hlz := blk_lt HZ3.out
          obtain ⟨ba, bc, rfl, -, -, -⟩ := ho.slice
          clear ho hb HRS
          go_wp2_with fail
          obtain ⟨w9, hw9, h9, hs9, hk9, hb9⟩ := seven _ w.heap.size HZ3.out (.slice ba bl.length bc) (.int .i64 pl) (.int .i64 ou) (.int .i64 ot) (.int .i64 ow) (.int .i64 od) (.int .i64 on)
          rw [hw9]
          clear hw9
          refine bodyPost_ret (v := .tuple #[.agg #[.slice ba bl.length bc, .int .i64 pl, .int .i64 ou, .int .i64 ot, .int .i64 ow, .int .i64 od, .int .i64 on], .int .i64 er]) (results_row_tmp (fn := Tryz.f12) (p := 8) (ty := 51) rfl _ _ w.heap.size 51 _ (0, 0) _ rfl h9 Tryz.underlying51 rfl (by kernel_rfl)) rfl ?_
          exact ⟨_, rfl, HO3.out.keepF bal_Free (fun k hk => hk9 k (HO3.out.off HZ3.out (by decide) k hk)), hb9 _ _ HB3.out (Nat.le_refl _)⟩
end Go.Proofs.YtgggpaacagbmcaaGreat


/- The document's members of a group: how they lie; is an entity one of them. -/
set_option linter.unusedVariables false
set_option linter.unusedSimpArgs false
namespace Go.Proofs.YtgggpaacagbmcaaGreat
open Go.RowKit Go.Maps Go.Deep

set_option maxRecDepth 100000 in
theorem arr3_of {H : Type} {enc : TypeId × Value → H} {w : World} {fuel : Nat} {cs : List Value} {d : DataW H} {ps : List MemPlace} (h1 : DataW.trod enc Tryz.prog w 0 (fun _ => true) true fuel 75 cs = some (d, ps)) :
    ∃ x : Int × Int × Int, cs = [.int .i64 x.1, .int .i64 x.2.1, .int .i64 x.2.2] ∧ I64 x.1 ∧ I64 x.2.1 ∧ I64 x.2.2 := by
  obtain ⟨xs, m, _, _, hl, hxl, hel⟩ := DataW.trod_array Tryz.underlying75 h1
  have hc1 : Tryz.prog.cellsOf 3 = 1 := by kernel_rfl
  have hc3 : Tryz.prog.cellsOf 75 = 3 := by kernel_rfl
  rw [hc3] at hl
  obtain ⟨c0, c1, c2, rfl⟩ : ∃ c0 c1 c2, cs = [c0, c1, c2] := by
    match cs, hl with
    | [a, b, c], _ => exact ⟨a, b, c, rfl⟩
  obtain ⟨y0, hy0⟩ : ∃ y, xs[0]? = some y := ⟨_, List.getElem?_eq_getElem (by omega)⟩
  obtain ⟨y1, hy1⟩ : ∃ y, xs[1]? = some y := ⟨_, List.getElem?_eq_getElem (by omega)⟩
  obtain ⟨y2, hy2⟩ : ∃ y, xs[2]? = some y := ⟨_, List.getElem?_eq_getElem (by omega)⟩
  have h0 := hel 0 (by decide)
  have h1 := hel 1 (by decide)
  have h2 := hel 2 (by decide)
  rw [hc1, hy0] at h0
  rw [hc1, hy1] at h1
  rw [hc1, hy2] at h2
  obtain ⟨x0, hx0, _, w0⟩ := DataW.trod_int Tryz.underlying3 h0
  obtain ⟨x1, hx1, _, w1⟩ := DataW.trod_int Tryz.underlying3 h1
  obtain ⟨x2, hx2, _, w2⟩ := DataW.trod_int Tryz.underlying3 h2
  simp at hx0 hx1 hx2
  subst hx0
  subst hx1
  subst hx2
  exact ⟨(x0, x1, x2), rfl, w0, w1, w2⟩
def tA3 : Ty Tryz.prog 75 (Int × Int × Int) where
  n := 3
  R := fun _ _ cs x => cs = [.int .i64 x.1, .int .i64 x.2.1, .int .i64 x.2.2] ∧ I64 x.1 ∧ I64 x.2.1 ∧ I64 x.2.2
  hn := by kernel_rfl
  len := by rintro _ _ _ _ ⟨rfl, _⟩; rfl
  keep := fun _ h => h
  mono := fun _ h => h
  of := fun h1 _ => arr3_of h1
def fRm : Flds Tryz.prog [fld "Entity" 3 0 0, fld "Share" 3 1 8, fld "Rates" 75 2 16] 0 (Int × Int × (Int × Int × Int) × Unit) :=
  Flds.cons (f := fld "Entity" 3 0 0) tInt rfl (Flds.cons (f := fld "Share" 3 1 8) tInt rfl (Flds.cons (f := fld "Rates" 75 2 16) tA3 rfl (Flds.nil _ _)))
def Mb.mkR (x : Int × Int × (Int × Int × Int) × Unit) : Mb := ⟨x.1, x.2.1, x.2.2.1.1, x.2.2.1.2.1, x.2.2.1.2.2⟩
def tRm : Ty Tryz.prog 90 Mb := (Ty.struct Tryz.underlying90 fRm (by kernel_rfl)).map Mb.mkR
theorem tRm_n : tRm.n = 5 := rfl
theorem rm_inv {w : World} {F : Nat → Prop} {cs : List Value} {m : Mb} (h : tRm.R w F cs m) : cs = mbC m ∧ m.wf := by
  obtain ⟨x, rfl, c1, c2, rfl, ⟨rfl, h1⟩, c3, c4, rfl, ⟨rfl, h2⟩, c5, c6, rfl, ⟨rfl, h3, h4, h5⟩, rfl⟩ := h
  exact ⟨rfl, h1, h2, h3, h4, h5⟩
theorem rm_mk {w : World} {F : Nat → Prop} (m : Mb) (h : m.wf) : tRm.R w F (mbC m) m :=
  ⟨(m.en, m.sh, (m.cl, m.av, m.ol), ()), rfl, [_], [_, _, _, _], rfl, ⟨rfl, h.1⟩, [_], [_, _, _], rfl, ⟨rfl, h.2.1⟩, [_, _, _], [], rfl, ⟨rfl, h.2.2.1, h.2.2.2.1, h.2.2.2.2⟩, rfl⟩
theorem rm_free (w : World) (F G : Nat → Prop) (c : List Value) (m : Mb) (h : tRm.R w F c m) : tRm.R w G c m := by
  obtain ⟨rfl, hw⟩ := rm_inv h
  exact rm_mk m hw
theorem rm_one (w : World) (F : Nat → Prop) (c : List Value) (m : Mb) (h : tRm.R w F c m) : ∀ u ∈ c, u.oneCell' = true := by
  obtain ⟨rfl, _⟩ := rm_inv h
  simp [mbC, Value.oneCell']
theorem rm_at {w : World} {F : Nat → Prop} {a : Option Addr} {l : List Mb} (h : Sl tRm w F a l) (i : Nat) (hi : i < l.length) :
    ∃ ad, a = some ad ∧ F ad.block ∧ ad.block < w.heap.size ∧ w.cell? (ad.add (i * 5)) = some (.int .i64 l[i].en) ∧ w.cell? ⟨(ad.add (i * 5)).block, (ad.add (i * 5)).off + 1, none⟩ = some (.int .i64 l[i].sh) ∧
      w.cell? ⟨(ad.add (i * 5)).block, (ad.add (i * 5)).off + 2, none⟩ = some (.int .i64 l[i].cl) ∧ w.cell? ⟨(ad.add (i * 5)).block, (ad.add (i * 5)).off + 3, none⟩ = some (.int .i64 l[i].av) ∧
      w.cell? ⟨(ad.add (i * 5)).block, (ad.add (i * 5)).off + 4, none⟩ = some (.int .i64 l[i].ol) ∧ l[i].wf := by
  obtain ⟨ad, ces, rfl, hf, hlt, hc, hr⟩ := h i l[i] (List.getElem?_eq_getElem hi)
  obtain ⟨rfl, h1⟩ := rm_inv hr
  rw [tRm_n] at hc
  refine ⟨ad, rfl, hf, hlt, ?_, ?_, ?_, ?_, ?_, h1⟩
  · have := hc 0 _ rfl
    simpa [Addr.add] using this
  · have := hc 1 _ rfl
    rw [Addr.add] at this
    simpa using this
  · have := hc 2 _ rfl
    rw [Addr.add] at this
    simpa using this
  · have := hc 3 _ rfl
    rw [Addr.add] at this
    simpa using this
  · have := hc 4 _ rfl
    rw [Addr.add] at this
    simpa using this

set_option maxHeartbeats 2000000 in
set_option maxRecDepth 100000 in
theorem r10Member_any (l : List Mb) (a : Option Addr) (cap : Nat) (e : Int) (w : World) {F : Nat → Prop} (hs : Sl tRm w F a l) (hl : l.length ≤ maxLen) :
    Calls Tryz.prog 32 #[.slice a l.length cap, .int .i64 e] w fun en w' => en = .returned (.bool (innB l e)) ∧ w' = w := by
  have HS := Lib.hid hs
  have hl' : l.length ≤ 9223372036854775807 := by unfold maxLen at hl; omega
  clear hs hl
  generalize hres : innB l e = res
  have HR := Lib.hid hres
  clear hres
  go_enter Tryz.func32, Tryz.ntmps32
  go_wp2_with fail
  go_loopw [5] (fun vi wr => ∃ n : Nat, n ≤ l.length ∧ vi = .int .i64 n ∧ Hid ((l.take n).any (fun m => m.en == e) = false) ∧ wr = w) (fun vi _ => l.length - (Go.RowKit.intOf vi).toNat)
  case atStart => exact ⟨0, Nat.zero_le _, rfl, Lib.hid rfl, rfl⟩
  case round =>
    obtain ⟨n, hn, rfl, hany, rfl⟩ := hrel
    by_cases hlt : n < l.length
    · obtain ⟨ad, rfl, _, hadl, hc0, hc1, hc2, hc3, hc4, _⟩ := rm_at HS.out n hlt
      have HAT := Lib.hid (any_at (fun m : Mb => m.en == e) l n hlt)
      have HSU := Lib.hid (any_take_succ (fun m : Mb => m.en == e) l n hlt)
      generalize l[n] = m at *
      clear hc1 hc2 hc3 hc4
      obtain ⟨x, hx⟩ : ∃ x, m.en = x := ⟨_, rfl⟩
      rw [hx] at hc0
      have HX := Lib.hid hx
      clear hx
      by_cases hv : x = e
      · have HRR : Hid (res = true) := Lib.hid (by rw [← HR.out]; exact HAT.out (by simp [HX.out, hv]))
        go_wp2_with fail
        go_ret
        rw [HRR.out]
        exact ⟨rfl, rfl⟩
      · have HN : Hid (((l.take (n + 1)).any fun m => m.en == e) = false) := Lib.hid (by rw [HSU.out, hany.out]; simp [HX.out, hv])
        go_wp2_with fail
        go_roundw
        case rel => exact ⟨n + 1, by omega, by go_num, HN, by first | trivial | rfl⟩
        case measure => simp [Go.RowKit.intOf]; omega
    · have hr : res = false := by
        rw [← HR.out]
        have := hany.out
        rwa [take_all hn hlt] at this
      have HRR := Lib.hid hr
      clear hr
      go_wp2_with fail
      go_ret
      rw [HRR.out]
      exact ⟨rfl, rfl⟩
end Go.Proofs.YtgggpaacagbmcaaGreat


/- Charts: put, New. -/
set_option linter.unusedVariables false
set_option linter.unusedSimpArgs false
namespace Go.Proofs.YtgggpaacagbmcaaGreat
open Go.RowKit Go.Maps Go.Deep

theorem known_any (k : Int) (w : World) {b : Bool} (h : (decide (1 ≤ k) && decide (k ≤ 5)) = b) : Calls Tryz.prog 154 #[.int .i64 k] w fun e w' => e = .returned (.bool b) ∧ w' = w := by
  have hcs : (b = true ∧ 1 ≤ k ∧ k ≤ 5) ∨ (b = false ∧ (k < 1 ∨ 1 ≤ k ∧ 5 < k)) := by
    cases b
    · right; simp at h; exact ⟨rfl, by omega⟩
    · left; simp at h; exact ⟨rfl, h⟩
  rcases hcs with ⟨rfl, h1, h2⟩ | ⟨rfl, h1 | ⟨h1, h2⟩⟩
  all_goals
    clear h
    go_enter Tryz.func154, Tryz.ntmps154
    go_wp2
    go_ret
    refine ⟨?_, rfl⟩
    first | rfl | (simp; omega)
theorem asked_any (k : Int) (w : World) {b : Bool} (h : (decide (1 ≤ k) && decide (k ≤ 5)) = b) : Calls Tryz.prog 153 #[.func (.func 154) #[] #[], .int .i64 k] w fun e w' => e = .returned (.bool b) ∧ w' = w := by
  have HC := Lib.hid (known_any k w h)
  clear h
  go_enter Tryz.func153, Tryz.ntmps153
  go_wp2_with fail
  refine HC.out.mono ?_
  rintro e w1 ⟨rfl, rfl⟩
  go_wp2_with fail
  go_ret
  exact ⟨rfl, rfl⟩

theorem Below.onlyA {B b : Nat} {w w2 w3 : World} (h : Below B w w2) (ho : OnlyB w2 w3 b) (hb : B ≤ b) (hB : B ≤ w2.heap.size) : Below B w w3 := h.grown ho.grown hB (fun k e => by cases e; exact hb)
def PutC (w : World) (B g : Nat) (l : List Ac) (e : Ending) (w' : World) : Prop :=
  e = .returned (.int .i64 0) ∧ ∃ mb', ChartAt w' g mb' l ∧ (∀ b, mb' = some b → B ≤ b) ∧ Below B w w'

theorem codes_snoc {l : List Ac} {x : Ac} (h : findA l x.code = none) : ins (codesOf l) x.code x = codesOf (l ++ [x]) := by
  rw [ins_new _ _ _ (by rw [look_codes]; exact h)]
  unfold codesOf
  rw [List.map_append]
  rfl

set_option maxHeartbeats 4000000 in
set_option maxRecDepth 100000 in
theorem put_any {w : World} {g B : Nat} {mb : Option Nat} {l : List Ac} (h : ChartAt w g mb l) (x : Ac) (hrow : rowB x = true) (hnew : findA l x.code = none) (hk1 : I64 x.code) (hk2 : I64 x.kind) (hBg : B ≤ g) (hBm : ∀ b, mb = some b → B ≤ b) :
    Calls Tryz.prog 131 #[.pointer (some ⟨g, 0, none⟩), acv x] w (PutC w B g (l ++ [x])) := by
  have HH := Lib.hid h
  have HNEW := Lib.hid hnew
  have HK1 := Lib.hid hk1
  have HINS := Lib.hid (codes_snoc hnew)
  have HBM := Lib.hid hBm
  have hgl := blk_lt h.cell
  obtain ⟨xc, xk, xr⟩ := x
  have hrow' : 1 ≤ xc ∧ xc ≤ 9999 ∧ 1 ≤ xk ∧ xk ≤ 5 := by
    unfold rowB at hrow
    simp at hrow
    omega
  obtain ⟨r1, r2, r3, r4⟩ := hrow'
  simp only at HNEW HK1 HINS
  have HB := Lib.hid ((Below.refl w.heap.size w).alloc (Nat.le_refl _) (.cells #[.int .i64 xc, .int .i64 xk, .bool xr] 79))
  have HZ := Lib.hid (blk_new w (.cells #[.int .i64 xc, .int .i64 xk, .bool xr] 79))
  clear h hnew hk1 hk2 hrow hBm
  go_enter Tryz.func131, Tryz.ntmps131
  go_wp2_with fail
  refine (asked_any xk _ (b := true) (by simp; omega)).mono ?_
  rintro e w1 ⟨rfl, rfl⟩
  go_wp2_with fail
  refine abs_world (S := fun wx => wx.heap[w.heap.size]? = some (.cells #[.int .i64 xc, .int .i64 xk, .bool xr] 79 (0, 0)) ∧ Below w.heap.size w wx) ?_ ⟨HZ.out, HB.out⟩
  rintro wx ⟨hzx, hbx⟩
  have HZX := Lib.hid hzx
  have HBX := Lib.hid hbx
  have HCX := Lib.hid (HH.out.below hbx)
  have hzc := blk_cells hzx
  have hgc := blk_cells HCX.out.cell
  have hgf := blk_frz HCX.out.cell
  have hzl := blk_lt hzx
  have hgx := blk_lt HCX.out.cell
  have hne : w.heap.size ≠ g := by omega
  have hl1 := lookA HCX.out HK1.out wx.drew (fun b _ => rfl)
  have hl2 := lookA HCX.out HK1.out (wx.drew.alloc (.cells #[.int .i64 0, .int .i64 0, .bool false] 79)) (fun b hb => Below.heap_alloc wx.drew _ b hb)
  have hl3 := lookA HCX.out HK1.out (wx.alloc (.cells #[.int .i64 0, .int .i64 0, .bool false] 79)).drew (fun b hb => Below.heap_alloc wx _ b hb)
  have hd : acD l xc = ac0 := by unfold acD; rw [HNEW.out]; rfl
  rw [HNEW.out, hd] at hl1 hl2 hl3
  simp only [Option.isSome_none] at hl1 hl2 hl3
  clear hzx hbx HB HZ hd
  go_region_law (fail)
  all_goals
    have hnil := fun W m => run_eql_map_nil (P := Tryz.prog) W 199 _ _ m Tryz.underlying199
    have hmm := @run_makeMap Tryz.prog
    have HBW := Lib.hid (HBX.out.mono (Nat.le_trans hBg (Nat.le_of_lt hgl)))
    cases mb with
    | none =>
      go_wp2_with fail
      refine abs_world (S := (fun wz => ∃ b', wz.heap[g]? = some (.cells #[.map (some b')] 201 (0, 0)) ∧ MapIs mInt acv wz b' (codesOf l) ∧ b' ≠ g ∧ B ≤ b' ∧ wz.heap[w.heap.size]? = some (.cells #[.int .i64 xc, .int .i64 xk, .bool xr] 79 (0, 0)) ∧ Below B w wz)) ?_ ⟨wx.heap.size + 1, blk_alloc (blk_alloc (blk_set HCX.out.cell 0 _) _) _, by rw [HCX.out.none rfl]; have h9 : MapIs mInt acv (((wx.setCell { block := g, off := 0 } (Value.map (some (wx.heap.size + 1)))).alloc (.cells #[.int .i64 ac0.code, .int .i64 ac0.kind, .bool ac0.ret] 79)).alloc (.map #[] 0)) (wx.heap.size + 1) (codesOf []) := (by have := MapIs.new mInt acv ((wx.setCell { block := g, off := 0 } (Value.map (some (wx.heap.size + 1)))).alloc (.cells #[.int .i64 ac0.code, .int .i64 ac0.kind, .bool ac0.ret] 79)); simpa [codesOf] using this); exact h9.keep rfl, by omega, by omega, blk_alloc (blk_alloc (blk_far HZX.out (p := ⟨g, 0, none⟩) hne _) _) _, (((HBW.out.setCell hBg _).alloc (by simp; omega) _).alloc (by simp; omega) _).drew⟩
      rintro wz ⟨b', hzg, hzm, hzb, hzB, hza, hzB2⟩
      have HZG := Lib.hid hzg
      have HZM := Lib.hid hzm
      have HZB := Lib.hid hzB2
      have HZA := Lib.hid hza
      clear hzc hgc hgf hl1 hl2 hl3
      have hzc := blk_cells hza
      have hgc := blk_cells hzg
      clear hzg hzm hza hzB2 hnil hmm
      refine still_tail 7 (by kernel_rfl) (by kernel_rfl) ?_
      simp only [List.take_succ_cons, List.take_zero, List.drop_succ_cons, List.drop_zero]
      repeat still_step
      try refine wpStill_nil ?_
      change wpList _ _ _ _ _ _
      refine wp_update (M := mInt) (ev := acv) rfl _ _ _ 199 rfl _ Tryz.underlying199 b' (codesOf l) xc ⟨xc, xk, xr⟩ rfl rfl rfl (HZM.out.keep rfl) HK1.out ?_
      intro w2 hm2 ho2
      have HF : Hid (PutC w B g (l ++ [⟨xc, xk, xr⟩]) (.returned (.int .i64 0)) w2) := Lib.hid ⟨rfl, some b', ⟨(ho2.heap (k := g) (Ne.symm hzb)).trans HZG.out, (fun e => by cases e), (fun b e => by injection e with e; subst e; rw [← HINS.out]; exact ⟨hm2, hzb⟩)⟩, (fun b e => by injection e with e; subst e; exact hzB), Below.onlyA (Below.drew HZB.out) ho2 hzB (Nat.le_trans hzB (Nat.le_of_lt HZM.out.lt))⟩
      clear hm2 ho2
      go_wp2_with fail
      go_ret
      exact HF.out
    | some b =>
      go_wp2_with fail
      refine abs_world (S := (fun wz => ∃ b', wz.heap[g]? = some (.cells #[.map (some b')] 201 (0, 0)) ∧ MapIs mInt acv wz b' (codesOf l) ∧ b' ≠ g ∧ B ≤ b' ∧ wz.heap[w.heap.size]? = some (.cells #[.int .i64 xc, .int .i64 xk, .bool xr] 79 (0, 0)) ∧ Below B w wz)) ?_ ⟨b, blk_alloc HCX.out.cell _, (HCX.out.some b rfl).1.keep (Below.heap_alloc wx _ b (HCX.out.some b rfl).1.lt), (HCX.out.some b rfl).2, HBM.out b rfl, blk_alloc HZX.out _, (HBW.out.alloc (by omega) _).drew⟩
      rintro wz ⟨b', hzg, hzm, hzb, hzB, hza, hzB2⟩
      have HZG := Lib.hid hzg
      have HZM := Lib.hid hzm
      have HZB := Lib.hid hzB2
      have HZA := Lib.hid hza
      clear hzc hgc hgf hl1 hl2 hl3
      have hzc := blk_cells hza
      have hgc := blk_cells hzg
      clear hzg hzm hza hzB2 hnil hmm
      refine still_tail 7 (by kernel_rfl) (by kernel_rfl) ?_
      simp only [List.take_succ_cons, List.take_zero, List.drop_succ_cons, List.drop_zero]
      repeat still_step
      try refine wpStill_nil ?_
      change wpList _ _ _ _ _ _
      refine wp_update (M := mInt) (ev := acv) rfl _ _ _ 199 rfl _ Tryz.underlying199 b' (codesOf l) xc ⟨xc, xk, xr⟩ rfl rfl rfl (HZM.out.keep rfl) HK1.out ?_
      intro w2 hm2 ho2
      have HF : Hid (PutC w B g (l ++ [⟨xc, xk, xr⟩]) (.returned (.int .i64 0)) w2) := Lib.hid ⟨rfl, some b', ⟨(ho2.heap (k := g) (Ne.symm hzb)).trans HZG.out, (fun e => by cases e), (fun b e => by injection e with e; subst e; rw [← HINS.out]; exact ⟨hm2, hzb⟩)⟩, (fun b e => by injection e with e; subst e; exact hzB), Below.onlyA (Below.drew HZB.out) ho2 hzB (Nat.le_trans hzB (Nat.le_of_lt HZM.out.lt))⟩
      clear hm2 ho2
      go_wp2_with fail
      go_ret
      exact HF.out
end Go.Proofs.YtgggpaacagbmcaaGreat
