/- TrialVoid: of every journals, entity and periods: journals that are void, of other entities, or of other periods count nothing. -/
import Derived.Test.YthcomffnjmliaaaTh
import Derived.Test.YthcomffnjmliaaaTf
set_option linter.unusedVariables false
set_option linter.unusedSimpArgs false
namespace Go.Proofs.Ythcomffnjmliaaa
open Go.RowKit Go.Maps

theorem filter_succ {α : Type} (p : α → Bool) (l : List α) (n : Nat) (hn : n < l.length) : (l.take (n + 1)).filter p = (l.take n).filter p ++ (if p l[n] then [l[n]] else []) := by
  rw [List.take_succ_eq_append_getElem hn, List.filter_append]
  cases h : p l[n] <;> simp [h]

set_option maxHeartbeats 16000000 in
set_option maxRecDepth 100000 in
theorem trialVoid_any (l : List Jn) (a : Option Addr) (cap : Nat) (e f t : Int) (w : World) {F : Nat → Prop} (hs : Sl tJn w F a l) (hl : l.length ≤ maxLen) (hf : I64 f) (ht : I64 t) :
    Calls Try.prog 11 #[.slice a l.length cap, .int .i64 e, .int .i64 f, .int .i64 t] w fun en w' => en = .returned (.bool true) ∧ Below w.heap.size w w' := by
  have HS := Lib.hid hs
  have HL := Lib.hid hl
  have HF := Lib.hid hf
  have HT := Lib.hid ht
  clear hs hl hf ht
  obtain ⟨i0, hi, hz0, hz1, hz2⟩ := info_parts infoJ
  go_enter Try.func11, Try.ntmps11
  go_wp2_with fail
  refine (few_any l a cap 40 _ HS.out HL.out (by omega)).mono ?_
  rintro en w2 ⟨b, rfl, hfew, hb⟩
  have HB2 := Lib.hid hb
  have HFEW := Lib.hid hfew
  clear hb hfew
  cases b
  · go_wp2_with fail
    refine (alive10 _).mono ?_
    rintro en w3 ⟨rfl, hb⟩
    have HB3 := Lib.hid (belows_then HB2.out HB2.out.size hb)
    clear hb
    go_wp2_with fail
    go_ret
    exact ⟨rfl, HB3.out⟩
  · go_wp2_with fail
    refine (alive10 _).mono ?_
    rintro en w3 ⟨rfl, hb⟩
    have HB3 := Lib.hid (belows_then HB2.out HB2.out.size hb)
    clear hb
    go_wp2_with fail
    refine (fit_any l a cap 40 _ (Sl.keep (fun k hk _ => HB3.out.block k hk) HS.out) HL.out (by omega)).mono ?_
    rintro en w4 ⟨v4, rfl, ho, hb⟩
    have HB4 := Lib.hid (belows_then HB3.out HB3.out.size hb)
    have HV := Lib.hid (fit_val 40 l)
    have hlen : (fitJ 40 l).length ≤ 200 := HV.out.len
    generalize fitJ 40 l = all at *
    obtain ⟨fa, fc, rfl, _, _, hsl⟩ := ho.slice
    have HA : Hid (Sl tJn w4 (fun k => k < w4.heap.size) fa all) := Lib.hid (Sl.mono (fun k hk _ => hk) hsl)
    clear ho hb hsl
    go_wp2_with fail
    go_loopw [10, 11] (fun vo vi wr => ∃ (n : Nat) (vx : Value), vx = vo ∧ n ≤ all.length ∧ vi = .int .i64 n ∧ OwnL tJn wr w4.heap.size vx ((all.take n).filter (cnt e f t)) ∧ Below w4.heap.size w4 wr) (fun _ vi _ => all.length - (intOf vi).toNat)
    case atStart => exact ⟨0, _, rfl, Nat.zero_le _, rfl, OwnL.nil _ _, Below.refl _ _⟩
    case round =>
      obtain ⟨n, vo, rfl, hn, rfl, ho, hb⟩ := hrel
      have HO := Lib.hid ho
      have HBR := Lib.hid hb
      clear ho hb
      by_cases hlt : n < all.length
      · obtain ⟨ad, la, lc, rfl, _, hadl, hc0, hc1, hc2, hc3, hc4, hc5, hr⟩ := jn_at (Sl.keep (fun k hk _ => HBR.out.block k hk) HA.out) n hlt
        have HR := Lib.hid hr
        have HSUC := Lib.hid (filter_succ (cnt e f t) all n hlt)
        have hnum : ((all.take n).filter (cnt e f t)).length ≤ 200 := by
          have h1 := List.length_filter_le (cnt e f t) (all.take n)
          rw [List.length_take] at h1
          omega
        generalize hc : cnt e f t all[n] = c
        have hcs := cnt_cases hc
        have HC := Lib.hid hc
        clear hr hc
        rcases hcs with ⟨rfl, hcs⟩ | ⟨rfl, h1, h2, h3, h4⟩
        · have HN : Hid ((all.take (n + 1)).filter (cnt e f t) = (all.take n).filter (cnt e f t)) := Lib.hid (by rw [HSUC.out, HC.out]; simp)
          rcases hcs with h | ⟨h, h | ⟨h2, h | ⟨h3, h⟩⟩⟩
          all_goals
            go_wp2_with fail
            go_roundw
            case rel => exact ⟨n + 1, _, rfl, by omega, by go_num, by rw [HN.out]; exact HO.out, HBR.out⟩
            case measure => simp [intOf]; omega
        · have HN : Hid ((all.take (n + 1)).filter (cnt e f t) = (all.take n).filter (cnt e f t) ++ [all[n]]) := Lib.hid (by rw [HSUC.out, HC.out]; simp)
          have HOA := Lib.hid (HO.out.alloc (.cells #[.int .i64 all[n].id, .int .i64 all[n].en, .int .i64 all[n].pe, .string all[n].ref, .slice la all[n].lines.length lc, .bool false] 61))
          have HBA := Lib.hid (HBR.out.alloc HBR.out.size (.cells #[.int .i64 all[n].id, .int .i64 all[n].en, .int .i64 all[n].pe, .string all[n].ref, .slice la all[n].lines.length lc, .bool false] 61))
          have hsl := sl_appJ HR.out HO.out 0
          rw [h1] at hsl
          have HSL := Lib.hid hsl
          clear hsl
          have h63 : ((all.take n).filter (cnt e f t)).length + [all[n]].length ≤ maxLen := by simp only [List.length_cons, List.length_nil]; unfold maxLen; omega
          have hby : (((all.take n).filter (cnt e f t)).length + [all[n]].length) * 72 ≤ 140737488355328 := by simp only [List.length_cons, List.length_nil]; omega
          go_wp2_with (at_builtin; refine wp_app (T := tJn) rfl _ _ 53 rfl i0 (.agg #[.int .i64 0, .int .i64 0, .int .i64 0, .string ⟨#[]⟩, .slice none 0 0, .bool false]) 72 Try.underlying53 hi hz0 hz1 hz2 rfl (by decide) jn_one w4.heap.size vo ((all.take n).filter (cnt e f t)) rfl HOA.out ⟨wr.heap.size, 0, none⟩ 1 [all[n]] rfl HSL.out h63 hby HBA.out.size ?_; intro v5 w5 hown hg hnil hat; have HO5 := Lib.hid hown; have HB5 := Lib.hid (Below.grown HBA.out hg HBA.out.size (fun k e => (HOA.out.lt k e).1)); clear hown hg hnil hat)
          go_roundw
          case rel => exact ⟨n + 1, _, rfl, by omega, by go_num, by rw [HN.out]; exact HO5.out, HB5.out⟩
          case measure => simp [intOf]; omega
      · have hown := HO.out
        rw [take_all hn hlt] at hown
        obtain ⟨sa, sc, rfl, _, _, hsl⟩ := hown.slice
        have HSS := Lib.hid hsl
        have HVS := Lib.hid (HV.out.filter (cnt e f t))
        clear hown hsl
        go_wp2_with fail
        refine (lof_yes all fa fc _ (Sl.keep (fun k hk _ => HBR.out.block k hk) HA.out) (by omega) HV.out.incJ HV.out.of).mono ?_
        rintro en w5 ⟨g1, ga1, gc1, rfl, hg1, hat1, hb⟩
        have HAT1 := Lib.hid hat1
        have HB5 := Lib.hid (belows_then HBR.out HBR.out.size hb)
        have HSS5 := Lib.hid (Sl.keep (fun k hk _ => hb.block k hk) HSS.out)
        clear hat1 hb
        go_wp2_with fail
        refine (lof_yes (all.filter (cnt e f t)) sa sc _ HSS5.out (by have := HVS.out.len; omega) HVS.out.incJ HVS.out.of).mono ?_
        rintro en w6 ⟨g2, ga2, gc2, rfl, hg2, hat2, hb⟩
        have HAT2 := Lib.hid hat2
        have HB6 := Lib.hid (belows_then HB5.out HB5.out.size hb)
        have HAT16 := Lib.hid (HAT1.out.below hb)
        clear hat2 hb hg1 hg2
        go_wp2_with fail
        refine (balances_any HAT16.out (by omega) HV.out.good e f t HF.out HT.out).mono ?_
        rintro en w7 ⟨v7, rfl, ho, hb⟩
        generalize hbT : balT all e f t = bT at *
        obtain ⟨bl, bc⟩ := bT
        have HBT := Lib.hid hbT
        simp only at ho
        have HB7 := Lib.hid (belows_then HB6.out HB6.out.size hb)
        have HAT17 := Lib.hid (HAT16.out.below hb)
        have HAT27 := Lib.hid (HAT2.out.below hb)
        obtain ⟨xa, xc, rfl, _, hxm, hxs⟩ := ho.slice
        have HX := Lib.hid hxs
        have HXM := Lib.hid (Nat.le_trans (by assumption) hxm : bl.length ≤ maxLen)
        clear ho hb hbT hxs hxm
        go_wp2_with fail
        refine (balances_any HAT27.out (by have := HVS.out.len; omega) HVS.out.good e f t HF.out HT.out).mono ?_
        rintro en w8 ⟨v8, rfl, ho, hb⟩
        rw [balT_filter, HBT.out] at ho ⊢
        simp only at ho ⊢
        have HB8 := Lib.hid (belows_then HB7.out HB7.out.size hb)
        have HAT18 := Lib.hid (HAT17.out.below hb)
        have HAT28 := Lib.hid (HAT27.out.below hb)
        have HX8 := Lib.hid (Sl.keep (fun k hk _ => hb.block k hk) HX.out)
        obtain ⟨ya, yc, rfl, _, _, hys⟩ := ho.slice
        have HY := Lib.hid hys
        clear ho hb hys
        go_wp2_with fail
        refine (partnersT_any HAT18.out (by omega) HV.out.good e f t HF.out HT.out).mono ?_
        rintro en w9 ⟨v9, rfl, ho, hb⟩
        generalize hpT : parT all e f t = pT at *
        obtain ⟨pl, pc⟩ := pT
        have HPT := Lib.hid hpT
        simp only at ho
        have HB9 := Lib.hid (belows_then HB8.out HB8.out.size hb)
        have HAT29 := Lib.hid (HAT28.out.below hb)
        have HX9 := Lib.hid (Sl.keep (fun k hk _ => hb.block k hk) HX8.out)
        have HY9 := Lib.hid (Sl.keep (fun k hk _ => hb.block k hk) HY.out)
        obtain ⟨ua, uc, rfl, _, hum, hus⟩ := ho.slice
        have HU := Lib.hid hus
        have HUM := Lib.hid (Nat.le_trans (by assumption) hum : pl.length ≤ maxLen)
        clear ho hb hpT hus hum
        go_wp2_with fail
        refine (partnersT_any HAT29.out (by have := HVS.out.len; omega) HVS.out.good e f t HF.out HT.out).mono ?_
        rintro en w10 ⟨v10, rfl, ho, hb⟩
        rw [parT_filter, HPT.out] at ho ⊢
        simp only at ho ⊢
        have HB10 := Lib.hid (belows_then HB9.out HB9.out.size hb)
        have HX10 := Lib.hid (Sl.keep (fun k hk _ => hb.block k hk) HX9.out)
        have HY10 := Lib.hid (Sl.keep (fun k hk _ => hb.block k hk) HY9.out)
        have HU10 := Lib.hid (Sl.keep (fun k hk _ => hb.block k hk) HU.out)
        obtain ⟨va, vc, rfl, _, _, hvs⟩ := ho.slice
        have HVV := Lib.hid hvs
        clear ho hb hvs
        go_wp2_with fail
        refine (sameBal_any bl bl xa ya xc yc _ HX10.out HY10.out HXM.out HXM.out (r := true) (by simp)).mono ?_
        rintro en w11 ⟨rfl, hb⟩
        have HB11 := Lib.hid (belows_then HB10.out HB10.out.size hb)
        have HU11 := Lib.hid (Sl.keep (fun k hk _ => hb.block k hk) HU10.out)
        have HV11 := Lib.hid (Sl.keep (fun k hk _ => hb.block k hk) HVV.out)
        clear hb
        go_wp2_with fail
        refine (samePair_any pl pl ua va uc vc _ HU11.out HV11.out HUM.out HUM.out (r := true) (by simp)).mono ?_
        rintro en w12 ⟨rfl, hb⟩
        have HB12 := Lib.hid (belows_then HB11.out HB11.out.size hb)
        clear hb
        go_wp2_with fail
        go_ret
        exact ⟨rfl, belows_then HB4.out HB4.out.size HB12.out⟩

theorem trialVoid_row (a0 : Option Addr) (len0 cap0 : Nat) (x0 : List Jn) (a1 a2 a3 : Int) (w : World) (y0 : tJns.R w (fun _ => True) [.slice a0 len0 cap0] x0) (w1 : I64 a1) (w2 : I64 a2) (w3 : I64 a3) :
    Calls Try.prog 11 #[.slice a0 len0 cap0, .int .i64 a1, .int .i64 a2, .int .i64 a3] w fun en w' => en = .returned (.bool true) ∧ Below w.heap.size w w' := by
  obtain ⟨a, cap, he, hs, hle, hcm, _⟩ := y0
  simp only [List.cons.injEq, Value.slice.injEq, and_true] at he
  obtain ⟨rfl, rfl, rfl⟩ := he
  exact trialVoid_any x0 _ _ a1 a2 a3 w hs (Nat.le_trans hle hcm) w2 w3
end Go.Proofs.Ythcomffnjmliaaa
