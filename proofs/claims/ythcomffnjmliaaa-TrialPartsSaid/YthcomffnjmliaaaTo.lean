/- TrialParts: of every journals, entity and periods: the balances of some periods and of those behind them are, together, those of all. -/
import Derived.Test.YthcomffnjmliaaaTp
import Derived.Test.YthcomffnjmliaaaTk
import Derived.Test.YthcomffnjmliaaaTl
import Derived.Test.YthcomffnjmliaaaTh
set_option linter.unusedVariables false
set_option linter.unusedSimpArgs false
namespace Go.Proofs.Ythcomffnjmliaaa
open Go.RowKit Go.Maps

theorem LentB.sl {w : World} {base : Nat} {v : Value} {l : List (Int × Int)} (h : LentB w base v l) : ∃ g cap, v = .slice (some ⟨g, 0, none⟩) l.length cap ∧ Sl tBal w (fun _ => True) (some ⟨g, 0, none⟩) l := by
  obtain ⟨g, cap, h1, _, _, ho⟩ := h
  exact ⟨g, cap, h1, ho.sl.left⟩
theorem plus_is (x y z : List (Int × Int)) (a b : Option Addr) (ca cb : Nat) (w : World) {F G : Nat → Prop} (hs : Sl tBal w F a x) (ht : Sl tBal w G b y) (hl : x.length + y.length ≤ 100000) (h : plusT (x ++ y) = (z, 0)) :
    Calls Try.prog 50 #[.slice a x.length ca, .slice b y.length cb] w fun e w' => ∃ v, e = .returned (.tuple #[v, .int .i64 0]) ∧ OwnL tBal w' w.heap.size v z ∧ Below w.heap.size w w' := by
  have := plus_any x y a b ca cb w hs ht hl
  rw [h] at this
  exact this
theorem accR_len {l : List Jn} (h : ValJ l) (e f t : Int) : (accR l e f t).length ≤ 8000 := by
  have h1 := tellS_len (accS [] (linesOf l e f t))
  have h2 := accS_len (linesOf l e f t) []
  have h3 := linesOf_len h.good (by have := h.len; omega) e f t
  simp only [List.length_nil] at h2
  unfold accR
  omega

set_option maxHeartbeats 16000000 in
set_option maxRecDepth 100000 in
theorem parts_early (l : List Jn) (a : Option Addr) (cap : Nat) (e f m t : Int) (w : World) {F : Nat → Prop} (hs : Sl tJn w F a l) (hl : l.length ≤ maxLen) (h : f < 0 ∨ 0 ≤ f ∧ (m < f ∨ f ≤ m ∧ (t ≤ m ∨ m < t ∧ 1199 < t))) :
    Calls Try.prog 13 #[.slice a l.length cap, .int .i64 e, .int .i64 f, .int .i64 m, .int .i64 t] w fun en w' => en = .returned (.bool true) ∧ Below w.heap.size w w' := by
  have HC := Lib.hid (few_any l a cap 40 w hs hl (by omega))
  clear hs hl
  rcases h with h | ⟨h1, h | ⟨h2, h | ⟨h3, h⟩⟩⟩
  all_goals
    go_enter Try.func13, Try.ntmps13
    go_wp2_with fail
    refine HC.out.mono ?_
    rintro en w2 ⟨b, rfl, hfew, hb⟩
    have HB2 := Lib.hid hb
    clear hb hfew
    cases b
    all_goals
      go_wp2_with fail
      refine (alive10 _).mono ?_
      rintro en w3 ⟨rfl, hb⟩
      have HB3 := Lib.hid (belows_then HB2.out HB2.out.size hb)
      clear hb
      go_wp2_with fail
      go_ret
      exact ⟨rfl, HB3.out⟩

set_option maxHeartbeats 16000000 in
set_option maxRecDepth 100000 in
theorem parts_main (l : List Jn) (a : Option Addr) (cap : Nat) (e f m t : Int) (w : World) {F : Nat → Prop} (hs : Sl tJn w F a l) (hl : l.length ≤ maxLen) (h0 : 0 ≤ f) (h1 : f ≤ m) (h2 : m < t) (h3 : t ≤ 1199) :
    Calls Try.prog 13 #[.slice a l.length cap, .int .i64 e, .int .i64 f, .int .i64 m, .int .i64 t] w fun en w' => en = .returned (.bool true) ∧ Below w.heap.size w w' := by
  have HS := Lib.hid hs
  have HL := Lib.hid hl
  have i64s : ∀ n : Int, 0 ≤ n → n ≤ 1199 → I64 n := by
    intro n a b
    unfold I64 Lit.wf
    simp [IntKind.min, IntKind.max, IntKind.bits, IntKind.signed]
    omega
  have HF := Lib.hid (i64s f h0 (by omega))
  have HM := Lib.hid (i64s m (by omega) (by omega))
  have HM1 := Lib.hid (i64s (m + 1) (by omega) (by omega))
  have HT := Lib.hid (i64s t (by omega) h3)
  clear hs hl i64s
  go_enter Try.func13, Try.ntmps13
  go_wp2_with fail
  refine (few_any l a cap 40 w HS.out HL.out (by omega)).mono ?_
  rintro en w2 ⟨b, rfl, hfew, hb⟩
  have HB2 := Lib.hid hb
  clear hb hfew
  cases b
  · go_wp2_with fail
    refine (alive10 _).mono ?_
    rintro en w3 ⟨rfl, hb⟩
    have HB3 := Lib.hid (belows_then HB2.out HB2.out.size hb)
    clear hb
    go_wp2_with fail
    go_ret
    exact ⟨rfl, HB3.out⟩
  · go_wp2_with fail
    refine (alive10 _).mono ?_
    rintro en w3 ⟨rfl, hb⟩
    have HB3 := Lib.hid (belows_then HB2.out HB2.out.size hb)
    clear hb
    go_wp2_with fail
    refine (set0_any l a cap _ (Sl.keep (fun k hk _ => HB3.out.block k hk) HS.out) HL.out).mono ?_
    rintro en w4 ⟨c, g, ga, fa, gc, fc, rfl, hat, _, _, hb⟩
    have HV := Lib.hid (fit_val 40 l)
    have hlen : (fitJ 40 l).length ≤ 200 := HV.out.len
    generalize fitJ 40 l = all at *
    have HB4 := Lib.hid (belows_then HB3.out HB3.out.size hb)
    have HAT := Lib.hid hat
    clear hb hat
    go_wp2_with fail
    refine (balances_any HAT.out (by omega) HV.out.good e f m HF.out HM.out).mono ?_
    rintro en w5 ⟨v5, rfl, ho, hb⟩
    generalize hT1 : balT all e f m = T1 at *
    obtain ⟨x, c1⟩ := T1
    have HT1 := Lib.hid hT1
    simp only at ho
    have HB5 := Lib.hid (belows_then HB4.out HB4.out.size hb)
    have HAT5 := Lib.hid (HAT.out.below hb)
    obtain ⟨xa, xc, rfl, _, _, _⟩ := ho.slice
    have HOX := Lib.hid ho
    clear ho hb hT1
    go_wp2_with fail
    refine (balances_any HAT5.out (by omega) HV.out.good e (m + 1) t HM1.out HT.out).mono ?_
    rintro en w6 ⟨v6, rfl, ho, hb⟩
    generalize hT2 : balT all e (m + 1) t = T2 at *
    obtain ⟨y, c2⟩ := T2
    have HT2 := Lib.hid hT2
    simp only at ho
    have HB6 := Lib.hid (belows_then HB5.out HB5.out.size hb)
    have HAT6 := Lib.hid (HAT5.out.below hb)
    have HOX6 := Lib.hid (HOX.out.below hb)
    obtain ⟨ya, yc, rfl, _, _, _⟩ := ho.slice
    have HOY := Lib.hid ho
    clear ho hb hT2
    go_wp2_with fail
    refine (balances_any HAT6.out (by omega) HV.out.good e f t HF.out HT.out).mono ?_
    rintro en w7 ⟨v7, rfl, ho, hb⟩
    generalize hT3 : balT all e f t = T3 at *
    obtain ⟨z, c3⟩ := T3
    have HT3 := Lib.hid hT3
    simp only at ho
    have HB7 := Lib.hid (belows_then HB6.out HB6.out.size hb)
    have HOX7 := Lib.hid (HOX6.out.below hb)
    have HOY7 := Lib.hid (HOY.out.below hb)
    obtain ⟨za, zc, rfl, _, _, _⟩ := ho.slice
    have HOZ := Lib.hid ho
    clear ho hb hT3
    cases q1 : c1 == 0
    · have r1 : (c1 != 0) = true := by simpa using q1
      clear q1
      go_wp2_with fail
      go_ret
      exact ⟨rfl, HB7.out⟩
    · obtain rfl : c1 = 0 := by simpa using q1
      clear q1
      cases q2 : c2 == 0
      · have r2 : (c2 != 0) = true := by simpa using q2
        clear q2
        go_wp2_with fail
        go_ret
        exact ⟨rfl, HB7.out⟩
      · obtain rfl : c2 = 0 := by simpa using q2
        clear q2
        cases q3 : c3 == 0
        · have r3 : (c3 != 0) = true := by simpa using q3
          clear q3
          go_wp2_with fail
          go_ret
          exact ⟨rfl, HB7.out⟩
        · obtain rfl : c3 = 0 := by simpa using q3
          clear q3
          have HPP := Lib.hid (parts_plus HV.out h1 h2 (by rw [HT1.out]) (by rw [HT2.out]) (by rw [HT3.out]))
          have ex : x = accR all e f m := by have := (balT_ok (l := all) (e := e) (f := f) (t := m) (by rw [HT1.out])).1; rw [HT1.out] at this; exact congrArg Prod.fst this
          have ey : y = accR all e (m + 1) t := by have := (balT_ok (l := all) (e := e) (f := m + 1) (t := t) (by rw [HT2.out])).1; rw [HT2.out] at this; exact congrArg Prod.fst this
          have ez : z = accR all e f t := by have := (balT_ok (l := all) (e := e) (f := f) (t := t) (by rw [HT3.out])).1; rw [HT3.out] at this; exact congrArg Prod.fst this
          have hxl : x.length ≤ 8000 := by rw [ex]; exact accR_len HV.out _ _ _
          have hyl : y.length ≤ 8000 := by rw [ey]; exact accR_len HV.out _ _ _
          have hzl : z.length ≤ 8000 := by rw [ez]; exact accR_len HV.out _ _ _
          have HP1 : Hid (plusT (x ++ y) = (z, 0)) := Lib.hid (by rw [ex, ey, ez]; exact HPP.out.1)
          have HP2 : Hid (plusT (y ++ x) = (z, 0)) := Lib.hid (by rw [ex, ey, ez]; exact HPP.out.2)
          clear ex ey ez HPP
          go_wp2_with fail
          refine (lentBal_any HOX7.out (by omega)).mono ?_
          rintro en w8 ⟨v8, rfl, hle, hb⟩
          have HB8 := Lib.hid (belows_then HB7.out HB7.out.size hb)
          have HLX := Lib.hid hle
          have HOX8 := Lib.hid (HOX7.out.below hb)
          have HOY8 := Lib.hid (HOY7.out.below hb)
          have HOZ8 := Lib.hid (HOZ.out.below hb)
          clear hle hb
          go_wp2_with fail
          refine (lentBal_any HOY8.out (by omega)).mono ?_
          rintro en w9 ⟨v9, rfl, hle, hb⟩
          have HB9 := Lib.hid (belows_then HB8.out HB8.out.size hb)
          have HLY := Lib.hid hle
          have HLX9 := Lib.hid (HLX.out.below hb)
          have HOX9 := Lib.hid (HOX8.out.below hb)
          have HOY9 := Lib.hid (HOY8.out.below hb)
          have HOZ9 := Lib.hid (HOZ8.out.below hb)
          obtain ⟨mg, mc, rfl, hms⟩ := HLX9.out.sl
          obtain ⟨ng, nc, rfl, hns⟩ := hle.sl
          have HMS := Lib.hid hms
          have HNS := Lib.hid hns
          clear hle hb hms hns
          go_wp2_with fail
          refine (plus_is x y z (some ⟨mg, 0, none⟩) (some ⟨ng, 0, none⟩) mc nc _ HMS.out HNS.out (by omega) HP1.out).mono ?_
          rintro en w10 ⟨v10, rfl, ho, hb⟩
          have HB10 := Lib.hid (belows_then HB9.out HB9.out.size hb)
          have HLX10 := Lib.hid (HLX9.out.below hb)
          have HLY10 := Lib.hid (HLY.out.below hb)
          have HOX10 := Lib.hid (HOX9.out.below hb)
          have HOY10 := Lib.hid (HOY9.out.below hb)
          have HOZ10 := Lib.hid (HOZ9.out.below hb)
          have HMS10 := Lib.hid (Sl.keep (fun k hk _ => hb.block k hk) HMS.out)
          have HNS10 := Lib.hid (Sl.keep (fun k hk _ => hb.block k hk) HNS.out)
          obtain ⟨sa, sc, rfl, _, _, hss⟩ := ho.slice
          have HSS := Lib.hid hss
          clear ho hb hss
          go_wp2_with fail
          refine (plus_is y x z (some ⟨ng, 0, none⟩) (some ⟨mg, 0, none⟩) nc mc _ HNS10.out HMS10.out (by omega) HP2.out).mono ?_
          rintro en w11 ⟨v11, rfl, ho, hb⟩
          have HB11 := Lib.hid (belows_then HB10.out HB10.out.size hb)
          have HLX11 := Lib.hid (HLX10.out.below hb)
          have HLY11 := Lib.hid (HLY10.out.below hb)
          have HOX11 := Lib.hid (HOX10.out.below hb)
          have HOY11 := Lib.hid (HOY10.out.below hb)
          have HOZ11 := Lib.hid (HOZ10.out.below hb)
          have HSS11 := Lib.hid (Sl.keep (fun k hk _ => hb.block k hk) HSS.out)
          obtain ⟨ta, tc, rfl, _, _, hts⟩ := ho.slice
          have HTS := Lib.hid hts
          have hzs := HOZ11.out.sl
          have HZS := Lib.hid hzs
          have hzm : z.length ≤ maxLen := by unfold maxLen; omega
          clear ho hb hts hzs
          go_wp2_with fail
          refine (sameBal_is z z sa za sc zc _ HSS11.out HZS.out hzm hzm rfl).mono ?_
          rintro en w12 ⟨rfl, hb⟩
          have HB12 := Lib.hid (belows_then HB11.out HB11.out.size hb)
          have HTS12 := Lib.hid (Sl.keep (fun k hk _ => hb.block k hk) HTS.out)
          have HZS12 := Lib.hid (Sl.keep (fun k hk _ => hb.block k hk) HZS.out)
          have HLX12 := Lib.hid (HLX11.out.below hb)
          have HLY12 := Lib.hid (HLY11.out.below hb)
          have HOX12 := Lib.hid (HOX11.out.below hb)
          have HOY12 := Lib.hid (HOY11.out.below hb)
          clear hb
          go_wp2_with fail
          refine (sameBal_is z z ta za tc zc _ HTS12.out HZS12.out hzm hzm rfl).mono ?_
          rintro en w13 ⟨rfl, hb⟩
          have HB13 := Lib.hid (belows_then HB12.out HB12.out.size hb)
          have HLX13 := Lib.hid (HLX12.out.below hb)
          have HLY13 := Lib.hid (HLY12.out.below hb)
          have HOX13 := Lib.hid (HOX12.out.below hb)
          have HOY13 := Lib.hid (HOY12.out.below hb)
          have hxs := HOX13.out.sl
          have HXS := Lib.hid hxs
          clear hb hxs
          go_wp2_with fail
          refine (staysBal_any HLX13.out xa xc HXS.out).mono ?_
          rintro en w14 ⟨rfl, hb⟩
          have HB14 := Lib.hid (belows_then HB13.out HB13.out.size hb)
          have HLY14 := Lib.hid (HLY13.out.below hb)
          have HOY14 := Lib.hid (HOY13.out.below hb)
          have hys := HOY14.out.sl
          have HYS := Lib.hid hys
          clear hb hys
          go_wp2_with fail
          refine (staysBal_any HLY14.out ya yc HYS.out).mono ?_
          rintro en w15 ⟨rfl, hb⟩
          have HB15 := Lib.hid (belows_then HB14.out HB14.out.size hb)
          clear hb
          go_wp2_with fail
          go_ret
          exact ⟨rfl, HB15.out⟩

theorem trialParts_row (a0 : Option Addr) (len0 cap0 : Nat) (x0 : List Jn) (a1 a2 a3 a4 : Int) (w : World) (y0 : tJns.R w (fun _ => True) [.slice a0 len0 cap0] x0) (w1 : I64 a1) (w2 : I64 a2) (w3 : I64 a3) (w4 : I64 a4) :
    Calls Try.prog 13 #[.slice a0 len0 cap0, .int .i64 a1, .int .i64 a2, .int .i64 a3, .int .i64 a4] w fun en w' => en = .returned (.bool true) ∧ Below w.heap.size w w' := by
  obtain ⟨a, cap, he, hs, hle, hcm, _⟩ := y0
  simp only [List.cons.injEq, Value.slice.injEq, and_true] at he
  obtain ⟨rfl, rfl, rfl⟩ := he
  have hl := Nat.le_trans hle hcm
  by_cases h : a2 < 0 ∨ 0 ≤ a2 ∧ (a3 < a2 ∨ a2 ≤ a3 ∧ (a4 ≤ a3 ∨ a3 < a4 ∧ 1199 < a4))
  · exact parts_early x0 _ _ a1 a2 a3 a4 w hs hl h
  · exact parts_main x0 _ _ a1 a2 a3 a4 w hs hl (by omega) (by omega) (by omega) (by omega)
end Go.Proofs.Ythcomffnjmliaaa
