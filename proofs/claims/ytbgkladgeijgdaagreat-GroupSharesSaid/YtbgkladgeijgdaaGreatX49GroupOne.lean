/- GroupOne: one entity that is all the group's, in its own money, is as its balance sheet says; nothing is others'. -/
import Derived.Test.YtbgkladgeijgdaaGreatX47GroupOne
import Derived.Test.YtbgkladgeijgdaaGreatX48GroupOne
import Derived.Test.YtbgkladgeijgdaaGreatX29GroupOne
set_option linter.unusedVariables false
set_option linter.unusedSimpArgs false
namespace Go.Proofs.YtbgkladgeijgdaaGreat
open Go.RowKit Go.Maps Go.Deep

theorem grpB_one {e sh : Int} (h1 : 1 ≤ e) (h2 : e ≤ 9) (h3 : 0 ≤ sh) (h4 : sh ≤ 10000) : grpB [oneM e sh] = true := by
  unfold grpB gck gck okM oneM
  have hm : mbB ⟨e, sh, 1000000, 1000000, 1000000⟩ = true := rfl
  simp only [hm, List.length_cons, List.length_nil]
  simp
  omega
theorem oneM_wf {e sh : Int} (h1 : 1 ≤ e) (h2 : e ≤ 9) (h3 : 0 ≤ sh) (h4 : sh ≤ 10000) : (oneM e sh).wf := by
  have small : ∀ y : Int, 0 ≤ y → y ≤ 1000000 → I64 y := fun y a b => by
    unfold I64 Lit.wf; simp [IntKind.min, IntKind.max, IntKind.bits, IntKind.signed]; omega
  exact ⟨small e (by omega) (by omega), small sh (by omega) (by omega), show I64 1000000 from small _ (by decide) (by decide), show I64 1000000 from small _ (by decide) (by decide), show I64 1000000 from small _ (by decide) (by decide)⟩
theorem mak_one {r : List Ac} {J : List Jn} {e sh p : Int} (h1 : 1 ≤ e) (h2 : e ≤ 9) (h3 : 0 ≤ sh) (h4 : sh ≤ 10000) (hp : monthOk p = true) : makT r [oneM e sh] J p = grpT r [oneM e sh] J p := by
  unfold makT
  rw [grpB_one h1 h2 h3 h4, hp]
  rfl
theorem sum_mapB (l : List (Int × Int)) : sumI ((l.map negB).map (·.2)) = -sumI (l.map (·.2)) := by
  rw [← sum_negA]
  unfold negA negB
  rw [List.map_map]
  rfl

set_option maxHeartbeats 16000000 in
set_option maxRecDepth 100000 in
theorem groupOne_any (rows : List Ac) (ra : Option Addr) (rc : Nat) (l : List Jn) (la : Option Addr) (lc : Nat) (e p : Int) (hpi : I64 p) (w : World) {F G : Nat → Prop} (hs : Sl tAc w F ra rows) (hl : rows.length ≤ maxLen) (ht : Sl tJn w G la l) (hm : l.length ≤ maxLen) :
    Calls Tryz.prog 4 #[.slice ra rows.length rc, .slice la l.length lc, .int .i64 e, .int .i64 p] w fun en w' => en = .returned (.bool true) ∧ Below w.heap.size w w' := by
  have HS := Lib.hid hs
  have HT := Lib.hid ht
  have HPI := Lib.hid hpi
  clear hs ht hpi
  go_enter Tryz.func4, Tryz.ntmps4
  go_wp2_with fail
  refine (few_any l la lc 40 _ HT.out hm (by omega)).mono ?_
  rintro en w1 ⟨b, rfl, _, hb⟩
  have HB1 := Lib.hid hb
  clear hb
  cases b
  · go_wp2_with fail
    refine (alive14 w1).mono ?_
    rintro en w2 ⟨rfl, hb⟩
    have HB2 := Lib.hid (belows_then HB1.out HB1.out.size hb)
    clear hb
    go_wp2_with fail
    go_ret
    exact ⟨rfl, HB2.out⟩
  rcases (show (e < 1 ∨ 1 ≤ e ∧ 9 < e) ∨ (1 ≤ e ∧ e ≤ 9) by omega) with hbad | ⟨he1, he2⟩
  · rcases hbad with h | ⟨h, h'⟩
    all_goals
      go_wp2_with fail
      refine (alive14 w1).mono ?_
      rintro en w2 ⟨rfl, hb⟩
      have HB2 := Lib.hid (belows_then HB1.out HB1.out.size hb)
      clear hb
      go_wp2_with fail
      go_ret
      exact ⟨rfl, HB2.out⟩
  · go_wp2_with fail
    cases hmo : monthOk p
    · refine (ref_valid_is p hmo w1).mono ?_
      rintro en w1b ⟨rfl, hb⟩
      have HB1b := Lib.hid (belows_then HB1.out HB1.out.size hb)
      clear hb hmo
      go_wp2_with fail
      refine (alive14 w1b).mono ?_
      rintro en w2 ⟨rfl, hb⟩
      have HB2 := Lib.hid (belows_then HB1b.out HB1b.out.size hb)
      clear hb
      go_wp2_with fail
      go_ret
      exact ⟨rfl, HB2.out⟩
    · refine (ref_valid_is p hmo w1).mono ?_
      rintro en w1b ⟨rfl, hb⟩
      have HB1b := Lib.hid (belows_then HB1.out HB1.out.size hb)
      have HMO := Lib.hid hmo
      clear hb hmo
      go_wp2_with fail
      refine (alive14 w1b).mono ?_
      rintro en w2 ⟨rfl, hb⟩
      have HB2 := Lib.hid (belows_then HB1b.out HB1b.out.size hb)
      clear hb HB1 HB1b
      go_wp2_with fail
      refine (set_any rows ra rc l la lc w2 (Sl.keep (fun k hk _ => HB2.out.block k hk) HS.out) hl (Sl.keep (fun k hk _ => HB2.out.block k hk) HT.out) hm).mono ?_
      rintro en w3 ⟨c, g, xa, fa, ga, xc, fc, gc, mb, rfl, hc, hg, hxa, hfa, hb⟩
      have HV := Lib.hid (fit_val 40 l)
      have hJl : (fitJ 40 l).length ≤ 40 := fitJ_len 40 l [] (by simp)
      have HGA : Hid (GoodA (setR rows)) := Lib.hid (setFold_good (rows.take 30) [] GoodA.nil)
      have hrl : (setR rows).length ≤ 30 := by
        have := setFold_len (rows.take 30) []
        rw [List.length_take] at this
        simp only [List.length_nil] at this
        unfold setR
        omega
      generalize fitJ 40 l = J at *
      generalize setR rows = r at *
      have hab : Below w3.heap.size w3 ((w3.alloc (.cells #[.int .i64 1000000, .int .i64 1000000, .int .i64 1000000] 65)).alloc (.cells #[.int .i64 e, .int .i64 10000, .int .i64 1000000, .int .i64 1000000, .int .i64 1000000] 67)) := ((Below.refl w3.heap.size w3).alloc (Nat.le_refl _) (.cells #[.int .i64 1000000, .int .i64 1000000, .int .i64 1000000] 65)).alloc (by simp) (.cells #[.int .i64 e, .int .i64 10000, .int .i64 1000000, .int .i64 1000000, .int .i64 1000000] 67)
      have HB3 := Lib.hid (belows_then (belows_then HB2.out HB2.out.size hb) (Nat.le_trans HB2.out.size hb.size) hab)
      have HC := Lib.hid (hc.below hab)
      have HG := Lib.hid (hg.below hab)
      have HXA : Hid (Sl tAc ((w3.alloc (.cells #[.int .i64 1000000, .int .i64 1000000, .int .i64 1000000] 65)).alloc (.cells #[.int .i64 e, .int .i64 10000, .int .i64 1000000, .int .i64 1000000, .int .i64 1000000] 67)) (fun _ => True) xa r) := Lib.hid (Sl.keep (fun k hk _ => hab.block k hk) hxa)
      have HFA : Hid (Sl tJn ((w3.alloc (.cells #[.int .i64 1000000, .int .i64 1000000, .int .i64 1000000] 65)).alloc (.cells #[.int .i64 e, .int .i64 10000, .int .i64 1000000, .int .i64 1000000, .int .i64 1000000] 67)) (fun _ => True) fa J) := Lib.hid (Sl.keep (fun k hk _ => hab.block k hk) hfa)
      have hbm : ((w3.alloc (.cells #[.int .i64 1000000, .int .i64 1000000, .int .i64 1000000] 65)).alloc (.cells #[.int .i64 e, .int .i64 10000, .int .i64 1000000, .int .i64 1000000, .int .i64 1000000] 67)).heap[w3.heap.size + 1]? = some (.cells #[.int .i64 e, .int .i64 10000, .int .i64 1000000, .int .i64 1000000, .int .i64 1000000] 67 (0, 0)) := by have := blk_new (w3.alloc (.cells #[.int .i64 1000000, .int .i64 1000000, .int .i64 1000000] 65)) (.cells #[.int .i64 e, .int .i64 10000, .int .i64 1000000, .int .i64 1000000, .int .i64 1000000] 67); simpa using this
      have HMS : Hid (Sl tMb ((w3.alloc (.cells #[.int .i64 1000000, .int .i64 1000000, .int .i64 1000000] 65)).alloc (.cells #[.int .i64 e, .int .i64 10000, .int .i64 1000000, .int .i64 1000000, .int .i64 1000000] 67)) (fun _ => True) (some ⟨w3.heap.size + 1, 0, none⟩) [oneM e 10000]) := Lib.hid (mb_block (m := oneM e 10000) hbm (oneM_wf he1 he2 (by decide) (by decide)))
      have HMK := Lib.hid (grMake_any HC.out HG.out HV.out (by omega) p HPI.out [oneM e 10000] (some ⟨w3.heap.size + 1, 0, none⟩) 1 HMS.out (by unfold maxLen; simp))
      obtain ⟨⟨⟨bl, pl, ou, ot, ow, od, on⟩, er⟩, hT⟩ : ∃ T, grpT r [oneM e 10000] J p = T := ⟨_, rfl⟩
      rw [mak_one he1 he2 (by decide) (by decide) HMO.out, hT] at HMK
      have HTT := Lib.hid hT
      clear hc hg hxa hfa hb hab hbm HB2 HS HT hT HC HG HMS
      go_wp2_with fail
      refine HMK.out.mono ?_
      rintro en w4 ⟨v, rfl, ho, hb⟩
      have HB4 := Lib.hid (belows_then HB3.out HB3.out.size hb)
      obtain ⟨ba, bc, rfl, -, -, hbs⟩ := ho.slice
      have hZ := blk_new w4 (.cells #[.slice ba bl.length bc, .int .i64 pl, .int .i64 ou, .int .i64 ot, .int .i64 ow, .int .i64 od, .int .i64 on] 51)
      have hab : Below w4.heap.size w4 (w4.alloc (.cells #[.slice ba bl.length bc, .int .i64 pl, .int .i64 ou, .int .i64 ot, .int .i64 ow, .int .i64 od, .int .i64 on] 51)) := (Below.refl _ _).alloc (Nat.le_refl _) _
      have HZ := Lib.hid hZ
      have HBA := Lib.hid (belows_then HB4.out HB4.out.size hab)
      have HBS := Lib.hid (Sl.keep (fun k hk _ => hab.block k hk) hbs)
      have HXB := Lib.hid (Sl.keep (fun k hk _ => hab.block k hk) (Sl.keep (fun k hk _ => hb.block k hk) HXA.out))
      have HFB := Lib.hid (Sl.keep (fun k hk _ => hab.block k hk) (Sl.keep (fun k hk _ => hb.block k hk) HFA.out))
      have HRB := Lib.hid (r10Balances_all J fa fc e 0 p _ HFB.out HV.out)
      have HFT : Hid (∀ x ∈ (balT J e 0 p).1, fitsB x.2 = true) := Lib.hid balT_fit
      have hll := balT_len HV.out.good (by omega : J.length ≤ 100) e 0 p
      obtain ⟨⟨lst, ber⟩, hbt⟩ : ∃ t, balT J e 0 p = t := ⟨_, rfl⟩
      rw [hbt] at HRB HFT hll
      have HBT := Lib.hid hbt
      clear ho hb hab hZ hbs HB4 HXA HFA HMK hbt
      go_wp2_with fail
      refine HRB.out.mono ?_
      rintro en w5 ⟨v, rfl, ho, hb⟩
      have HB5 := Lib.hid (belows_then HBA.out HBA.out.size hb)
      have HZ5 := Lib.hid (blk_below HZ.out hb)
      have HBS5 := Lib.hid (Sl.keep (fun k hk _ => hb.block k hk) HBS.out)
      have HX5 := Lib.hid (Sl.keep (fun k hk _ => hb.block k hk) HXB.out)
      obtain ⟨ta, tc, rfl, -, -, hts⟩ := ho.slice
      have HTS := Lib.hid hts
      clear ho hb hts HRB HZ HBS HXB HFB HBA
      try simp only at hll HFT
      cases q1 : er == 0
      · have q2 : (er != 0) = true := by simpa using q1
        clear q1
        go_wp2_with fail
        go_ret
        exact ⟨rfl, HB5.out⟩
      obtain rfl : er = 0 := by simpa using q1
      cases q3 : ber == 0
      · have q4 : (ber != 0) = true := by simpa using q3
        clear q1 q3
        go_wp2_with fail
        go_ret
        exact ⟨rfl, HB5.out⟩
      obtain rfl : ber = 0 := by simpa using q3
      clear q1 q3
      obtain ⟨hbo, _⟩ := balT_ok (l := J) (e := e) (f := 0) (t := p) (by rw [HBT.out])
      have hone := one_plain (r := r) (J := J) HV.out (e := e) (p := p) (by rw [HTT.out])
      rw [HTT.out] at hone
      rw [HBT.out] at hbo
      have hlst : lst = accR J e 0 p := congrArg Prod.fst hbo
      have hs1 := pickS_f r lst 1 (by decide)
      have hs2 := pickS_t r lst 2 (by decide)
      have hb1 := pickS_bd r 1 false lst HFT.out
      have hb2 := pickS_bd r 2 true lst HFT.out
      obtain ⟨u1, hu1⟩ : ∃ u, sumI ((pickS r lst 1 false).map (·.2)) = u := ⟨_, rfl⟩
      obtain ⟨u2, hu2⟩ : ∃ u, sumI ((pickS r lst 2 true).map (·.2)) = u := ⟨_, rfl⟩
      have hk1 : sumI ((lst.filter (pickB r [1])).map (·.2)) = u1 := by rw [← hs1]; exact hu1
      have hk2 : -sumI ((lst.filter (pickB r [2])).map (·.2)) = u2 := by rw [← sum_mapB, ← hs2]; exact hu2
      rw [← hlst, hk1, hk2] at hone
      rw [hu1] at hb1
      rw [hu2] at hb2
      have hbd1 : -800000000000000000 ≤ u1 ∧ u1 ≤ 800000000000000000 := by omega
      have hbd2 : -800000000000000000 ≤ u2 ∧ u2 ≤ 800000000000000000 := by omega
      injection hone with o1 o2 o3 o4 o5 o6 o7
      subst o1 o2 o3 o4 o5 o6 o7
      have HU1 := Lib.hid hu1
      have HU2 := Lib.hid hu2
      clear hbo hlst hs1 hs2 hb1 hb2 hk1 hk2 HTT HBT hu1 hu2
      go_wp2_with fail
      refine (r10Pick_any r xa xc bl ta tc 1 false w5 HX5.out (by unfold maxLen; omega) HTS.out (by omega) HFT.out).mono ?_
      rintro en w6 ⟨v, rfl, ho, hb⟩
      rw [HU1.out]
      have HB6 := Lib.hid (belows_then HB5.out HB5.out.size hb)
      have HZ6 := Lib.hid (blk_below HZ5.out hb)
      have HBS6 := Lib.hid (Sl.keep (fun k hk _ => hb.block k hk) HBS5.out)
      have HX6 := Lib.hid (Sl.keep (fun k hk _ => hb.block k hk) HX5.out)
      have HT6 := Lib.hid (Sl.keep (fun k hk _ => hb.block k hk) HTS.out)
      obtain ⟨p1, d1, rfl, -, -, -⟩ := ho.slice
      clear ho hb HB5 HZ5 HBS5 HX5 HTS
      go_wp2_with fail
      refine (r10Pick_any r xa xc bl ta tc 2 true w6 HX6.out (by unfold maxLen; omega) HT6.out (by omega) HFT.out).mono ?_
      rintro en w7 ⟨v, rfl, ho, hb⟩
      rw [HU2.out]
      have HB7 := Lib.hid (belows_then HB6.out HB6.out.size hb)
      have HZ7 := Lib.hid (blk_below HZ6.out hb)
      have HBS7 := Lib.hid (Sl.keep (fun k hk _ => hb.block k hk) HBS6.out)
      have HT7 := Lib.hid (Sl.keep (fun k hk _ => hb.block k hk) HT6.out)
      obtain ⟨p2, d2, rfl, -, -, -⟩ := ho.slice
      have hcz := blk_cells HZ7.out
      have hlz := blk_lt HZ7.out
      have hlm : bl.length ≤ maxLen := by unfold maxLen; omega
      clear ho hb HB6 HZ6 HBS6 HX6 HT6
      go_wp2_with fail
      refine (sameBal_is bl bl ba ta bc tc w7 HBS7.out HT7.out hlm hlm rfl).mono ?_
      rintro en w8 ⟨rfl, hb⟩
      have HB8 := Lib.hid (belows_then HB7.out HB7.out.size hb)
      have hcz8 := blk_cells (blk_below HZ7.out hb)
      have hlz8 := blk_lt (blk_below HZ7.out hb)
      clear hb
      go_wp2_with fail
      go_ret
      exact ⟨by first | rfl | simp, HB8.out⟩
theorem groupOne_row (a0 : Option Addr) (len0 cap0 : Nat) (x0 : List Ac) (a1 : Option Addr) (len1 cap1 : Nat) (x1 : List Jn) (a2 a3 : Int) (w : World) (y0 : tAcs.R w (fun _ => True) [.slice a0 len0 cap0] x0) (y1 : tJns.R w (fun _ => True) [.slice a1 len1 cap1] x1) (w2 : I64 a2) (w3 : I64 a3) :
    Calls Tryz.prog 4 #[.slice a0 len0 cap0, .slice a1 len1 cap1, .int .i64 a2, .int .i64 a3] w fun en w' => en = .returned (.bool true) ∧ Below w.heap.size w w' := by
  obtain ⟨a, cap, he, hs, hle, hcm, _⟩ := y0
  simp only [List.cons.injEq, Value.slice.injEq, and_true] at he
  obtain ⟨rfl, rfl, rfl⟩ := he
  obtain ⟨a', cap', he, hs', hle', hcm', _⟩ := y1
  simp only [List.cons.injEq, Value.slice.injEq, and_true] at he
  obtain ⟨rfl, rfl, rfl⟩ := he
  exact groupOne_any x0 _ _ x1 _ _ a2 a3 w3 w hs (Nat.le_trans hle hcm) hs' (Nat.le_trans hle' hcm')
end Go.Proofs.YtbgkladgeijgdaaGreat
