/- law 12: the first calls are as the document fixes them. -/
import Derived.Test.YtapmedcgfnlchaaGreatX43SheetRolls
import Derived.Deep.RegionHeld3
import Derived.Test.YtapmedcgfnlchaaGreatX39SheetRolls
set_option linter.unusedVariables false
set_option linter.unusedSimpArgs false
namespace Go.Proofs.YtapmedcgfnlchaaGreat
open Go.RowKit Go.Maps Go.Deep

/-- a list that lies in one block, element behind element -/
theorem sl_block {P : Program} {e : TypeId} {α : Type} {T : Ty P e α} {w : World} {F : Nat → Prop} {b : Nat} (xs : List α) (css : List (List Value)) (hl : css.length = xs.length) (hn : ∀ c ∈ css, c.length = T.n)
    (hb : w.heap[b]? = some (.cells css.flatten.toArray e (0, 0))) (hF : F b) (hr : ∀ (i : Nat) (c : List Value) (x : α), css[i]? = some c → xs[i]? = some x → T.R w F c x) : Sl T w F (some ⟨b, 0, none⟩) xs := by
  intro i x hx
  have hil := (List.getElem?_eq_some_iff.1 hx).1
  have hci : css[i]? = some css[i] := List.getElem?_eq_getElem (by omega)
  refine ⟨_, css[i], rfl, hF, (Array.getElem?_eq_some_iff.1 hb).1, fun j u hu => ?_, hr i _ x hci hx⟩
  have hfl := flat_at hn i j _ u hci hu
  rw [Go.Addr.add_add]
  have : (⟨b, 0, none⟩ : Addr).add (i * T.n + j) = ⟨b, i * T.n + j, none⟩ := by unfold Addr.add; split <;> simp_all
  rw [this, cell_of_row w b _ _ e (0, 0) hb]
  simpa using hfl

set_option maxHeartbeats 8000000 in
set_option maxRecDepth 100000 in
theorem alive12 (w : World) : Calls Tryz.prog 16 #[] w fun e w' => e = .returned (.bool true) ∧ Below w.heap.size w w' := by
  have HBA := Lib.hid ((((Below.refl w.heap.size w).alloc (Nat.le_refl _) (.cells #[.int .i64 100, .int .i64 1, .bool false, .int .i64 400, .int .i64 4, .bool false] 53)).alloc (by simp) (.cells #[.int .i64 100, .int .i64 5, .int .i64 0, .int .i64 400, .int .i64 (-5), .int .i64 0] 57)).alloc (by simp; omega) (.cells #[.int .i64 1, .int .i64 1, .int .i64 3, .string ⟨#[]⟩, .slice (some ⟨w.heap.size + 1, 0, none⟩) 2 2, .bool false] 60))
  have HA1 : Hid (((((w.alloc (.cells #[.int .i64 100, .int .i64 1, .bool false, .int .i64 400, .int .i64 4, .bool false] 53)).alloc (.cells #[.int .i64 100, .int .i64 5, .int .i64 0, .int .i64 400, .int .i64 (-5), .int .i64 0] 57)).alloc (.cells #[.int .i64 1, .int .i64 1, .int .i64 3, .string ⟨#[]⟩, .slice (some ⟨w.heap.size + 1, 0, none⟩) 2 2, .bool false] 60))).heap[w.heap.size]? = some (.cells #[.int .i64 100, .int .i64 1, .bool false, .int .i64 400, .int .i64 4, .bool false] 53 (0, 0))) := Lib.hid (blk_alloc (blk_alloc (blk_new w (.cells #[.int .i64 100, .int .i64 1, .bool false, .int .i64 400, .int .i64 4, .bool false] 53)) (.cells #[.int .i64 100, .int .i64 5, .int .i64 0, .int .i64 400, .int .i64 (-5), .int .i64 0] 57)) (.cells #[.int .i64 1, .int .i64 1, .int .i64 3, .string ⟨#[]⟩, .slice (some ⟨w.heap.size + 1, 0, none⟩) 2 2, .bool false] 60))
  have HL1 : Hid (((((w.alloc (.cells #[.int .i64 100, .int .i64 1, .bool false, .int .i64 400, .int .i64 4, .bool false] 53)).alloc (.cells #[.int .i64 100, .int .i64 5, .int .i64 0, .int .i64 400, .int .i64 (-5), .int .i64 0] 57)).alloc (.cells #[.int .i64 1, .int .i64 1, .int .i64 3, .string ⟨#[]⟩, .slice (some ⟨w.heap.size + 1, 0, none⟩) 2 2, .bool false] 60))).heap[w.heap.size + 1]? = some (.cells #[.int .i64 100, .int .i64 5, .int .i64 0, .int .i64 400, .int .i64 (-5), .int .i64 0] 57 (0, 0))) := Lib.hid (by
    have := blk_alloc (blk_new (w.alloc (.cells #[.int .i64 100, .int .i64 1, .bool false, .int .i64 400, .int .i64 4, .bool false] 53)) (.cells #[.int .i64 100, .int .i64 5, .int .i64 0, .int .i64 400, .int .i64 (-5), .int .i64 0] 57)) (.cells #[.int .i64 1, .int .i64 1, .int .i64 3, .string ⟨#[]⟩, .slice (some ⟨w.heap.size + 1, 0, none⟩) 2 2, .bool false] 60)
    simpa using this)
  have HJ1 : Hid (((((w.alloc (.cells #[.int .i64 100, .int .i64 1, .bool false, .int .i64 400, .int .i64 4, .bool false] 53)).alloc (.cells #[.int .i64 100, .int .i64 5, .int .i64 0, .int .i64 400, .int .i64 (-5), .int .i64 0] 57)).alloc (.cells #[.int .i64 1, .int .i64 1, .int .i64 3, .string ⟨#[]⟩, .slice (some ⟨w.heap.size + 1, 0, none⟩) 2 2, .bool false] 60))).heap[w.heap.size + 2]? = some (.cells #[.int .i64 1, .int .i64 1, .int .i64 3, .string ⟨#[]⟩, .slice (some ⟨w.heap.size + 1, 0, none⟩) 2 2, .bool false] 60 (0, 0))) := Lib.hid (by
    have := blk_new ((w.alloc (.cells #[.int .i64 100, .int .i64 1, .bool false, .int .i64 400, .int .i64 4, .bool false] 53)).alloc (.cells #[.int .i64 100, .int .i64 5, .int .i64 0, .int .i64 400, .int .i64 (-5), .int .i64 0] 57)) (.cells #[.int .i64 1, .int .i64 1, .int .i64 3, .string ⟨#[]⟩, .slice (some ⟨w.heap.size + 1, 0, none⟩) 2 2, .bool false] 60)
    simpa using this)
  have HSA : Hid (Sl tAc (((w.alloc (.cells #[.int .i64 100, .int .i64 1, .bool false, .int .i64 400, .int .i64 4, .bool false] 53)).alloc (.cells #[.int .i64 100, .int .i64 5, .int .i64 0, .int .i64 400, .int .i64 (-5), .int .i64 0] 57)).alloc (.cells #[.int .i64 1, .int .i64 1, .int .i64 3, .string ⟨#[]⟩, .slice (some ⟨w.heap.size + 1, 0, none⟩) 2 2, .bool false] 60)) (fun _ => True) (some ⟨w.heap.size, 0, none⟩) r12) := Lib.hid (sl_block r12 [acs ⟨100, 1, false⟩, acs ⟨400, 4, false⟩] rfl (by simp; rfl) HA1.out trivial (fun i c x hi hx => by
    match i, hi, hx with
    | 0, hi, hx => simp [r12] at hi hx; subst hi; subst hx; exact ac_mk _ (by decide) (by decide)
    | 1, hi, hx => simp [r12] at hi hx; subst hi; subst hx; exact ac_mk _ (by decide) (by decide)
    | i + 2, hi, hx => simp at hi))
  have HSJ : Hid (Sl tJn (((w.alloc (.cells #[.int .i64 100, .int .i64 1, .bool false, .int .i64 400, .int .i64 4, .bool false] 53)).alloc (.cells #[.int .i64 100, .int .i64 5, .int .i64 0, .int .i64 400, .int .i64 (-5), .int .i64 0] 57)).alloc (.cells #[.int .i64 1, .int .i64 1, .int .i64 3, .string ⟨#[]⟩, .slice (some ⟨w.heap.size + 1, 0, none⟩) 2 2, .bool false] 60)) (fun _ => True) (some ⟨w.heap.size + 2, 0, none⟩) [j12]) :=
    Lib.hid (sl_oneJ (j := j12) (a := some ⟨w.heap.size + 1, 0, none⟩) (cap := 2) HJ1.out trivial (jn_mk j12 (by decide) (by decide) (by decide) (by decide) (sl_lines2 ⟨100, 5, 0⟩ ⟨400, -5, 0⟩ HL1.out trivial ⟨by decide, by decide, by decide⟩ ⟨by decide, by decide, by decide⟩) (by decide) (by decide) (by rw [line_bytes]; decide)))
  go_enter Tryz.func16, Tryz.ntmps16
  go_wp2_with fail
  refine (set_any r12 (some ⟨w.heap.size, 0, none⟩) 2 [j12] (some ⟨w.heap.size + 2, 0, none⟩) 1 _ HSA.out (by decide) HSJ.out (by decide)).mono ?_
  rintro en w1 ⟨c, g, ra, fa, ga, rc, fc, gc, mb, rfl, hc, hg, _, _, hb⟩
  rw [fit12] at hg
  rw [set12] at hc
  have HC := Lib.hid hc
  have HG := Lib.hid hg
  have HB1 := Lib.hid (belows_then HBA.out HBA.out.size hb)
  have hgood : GoodJ [j12] := by
    have := (fit_val 40 [j12]).good
    rwa [fit12] at this
  clear hc hg hb HBA HA1 HL1 HJ1 HSA HSJ
  generalize (setR r12).length = nr at *
  generalize (fitJ 40 [j12]).length = nj at *
  go_wp2_with fail
  refine (shMake_any HC.out HG.out (by decide) hgood 1 5 (by decide) sh12a).mono ?_
  rintro en w2 ⟨a1, m1, c1, a2, m2, c2, a3, m3, c3, rfl, hm, hm3, hb⟩
  rw [len12] at hm
  obtain rfl := hm rfl
  clear hm hm3
  have HB2 := Lib.hid (belows_then HB1.out HB1.out.size hb)
  have HBS : Hid (Below w2.heap.size w2 (w2.alloc (.cells #[.slice a1 1 c1, .slice a2 m2 c2, .slice a3 m3 c3, .int .i64 5, .int .i64 0, .int .i64 0, .int .i64 0, .int .i64 5, .int .i64 0] 49))) := Lib.hid ((Below.refl _ _).alloc (Nat.le_refl _) _)
  have HZ2 := Lib.hid (blk_new w2 (.cells #[.slice a1 1 c1, .slice a2 m2 c2, .slice a3 m3 c3, .int .i64 5, .int .i64 0, .int .i64 0, .int .i64 0, .int .i64 5, .int .i64 0] 49))
  have HB3 := Lib.hid (belows_then HB2.out HB2.out.size HBS.out)
  have HC3 := Lib.hid ((HC.out.below hb).below HBS.out)
  have HG3 := Lib.hid ((HG.out.below hb).below HBS.out)
  clear hb HC HG HB1
  go_wp2_with fail
  refine (shMake_any HC3.out HG3.out (by decide) hgood 1 14 (by decide) sh12b).mono ?_
  rintro en w4 ⟨b1, n1, d1, b2, n2, d2, b3, n3, d3, rfl, hm2, hm3, hb⟩
  clear hm2 hm3
  have HB4 := Lib.hid (belows_then HB3.out HB3.out.size hb)
  have HZ4 := Lib.hid (blk_below HZ2.out hb)
  have hz4 := blk_cells HZ4.out
  have hzl4 := blk_lt HZ4.out
  have HBF := Lib.hid (HB4.out.alloc HB4.out.size (.cells #[.slice b1 n1 d1, .slice b2 n2 d2, .slice b3 n3 d3, .int .i64 5, .int .i64 0, .int .i64 0, .int .i64 5, .int .i64 0, .int .i64 0] 49))
  clear hb HC3 HG3 HB3 HZ2 HBS
  go_wp2_with fail
  refine (shHolds_any (.slice a1 1 c1) (.slice a2 m2 c2) (.slice a3 m3 c3) 5 0 0 0 5 0 _ rfl (by decide) (by decide) (by decide) (by decide) (by decide) (by decide) (q := true) (by decide)).mono ?_
  rintro en w5 ⟨rfl, hb⟩
  have HB5 := Lib.hid (belows_then HBF.out HBF.out.size hb)
  have HZ5 := Lib.hid (blk_below (blk_new w4 (.cells #[.slice b1 n1 d1, .slice b2 n2 d2, .slice b3 n3 d3, .int .i64 5, .int .i64 0, .int .i64 0, .int .i64 5, .int .i64 0, .int .i64 0] 49)) hb)
  have hz5 := blk_cells HZ5.out
  have hzl5 := blk_lt HZ5.out
  have HZ6 := Lib.hid (blk_below (blk_alloc HZ4.out (.cells #[.slice b1 n1 d1, .slice b2 n2 d2, .slice b3 n3 d3, .int .i64 5, .int .i64 0, .int .i64 0, .int .i64 5, .int .i64 0, .int .i64 0] 49)) hb)
  have hz6 := blk_cells HZ6.out
  have hzl6 := blk_lt HZ6.out
  clear hb hz4 hzl4
  go_wp2_with fail
  go_ret
  exact ⟨rfl, HB5.out⟩
end Go.Proofs.YtapmedcgfnlchaaGreat


/- SheetRolls: what is retained goes on from year to year. -/
set_option linter.unusedVariables false
set_option linter.unusedSimpArgs false
namespace Go.Proofs.YtapmedcgfnlchaaGreat
open Go.RowKit Go.Maps Go.Deep

set_option maxHeartbeats 16000000 in
set_option maxRecDepth 100000 in
theorem sheetRolls_any (rows : List Ac) (ra : Option Addr) (rc : Nat) (l : List Jn) (la : Option Addr) (lc : Nat) (e y : Int) (hy : I64 y) (w : World) {F G : Nat → Prop} (hs : Sl tAc w F ra rows) (hl : rows.length ≤ maxLen) (ht : Sl tJn w G la l) (hm : l.length ≤ maxLen) :
    Calls Tryz.prog 6 #[.slice ra rows.length rc, .slice la l.length lc, .int .i64 e, .int .i64 y] w fun en w' => en = .returned (.bool true) ∧ Below w.heap.size w w' := by
  have HS := Lib.hid hs
  have HT := Lib.hid ht
  have hyb := i64_bd hy
  clear hs ht hy
  go_enter Tryz.func6, Tryz.ntmps6
  go_wp2_with fail
  refine (few_any l la lc 40 _ HT.out hm (by omega)).mono ?_
  rintro en w1 ⟨b, rfl, _, hb⟩
  have HB1 := Lib.hid hb
  clear hb
  cases b
  · go_wp2_with fail
    refine (alive12 w1).mono ?_
    rintro en w2 ⟨rfl, hb⟩
    have HB2 := Lib.hid (belows_then HB1.out HB1.out.size hb)
    clear hb
    go_wp2_with fail
    go_ret
    exact ⟨rfl, HB2.out⟩
  · go_wp2_with fail
    refine (alive12 w1).mono ?_
    rintro en w2 ⟨rfl, hb⟩
    have HB2 := Lib.hid (belows_then HB1.out HB1.out.size hb)
    clear hb HB1
    go_wp2_with fail
    refine (set_any rows ra rc l la lc w2 (Sl.keep (fun k hk _ => HB2.out.block k hk) HS.out) hl (Sl.keep (fun k hk _ => HB2.out.block k hk) HT.out) hm).mono ?_
    rintro en w3 ⟨c, g, xa, fa, ga, xc, fc, gc, mb, rfl, hc, hg, _, _, hb⟩
    have HB3 := Lib.hid (belows_then HB2.out HB2.out.size hb)
    have HC := Lib.hid hc
    have HG := Lib.hid hg
    have HV := Lib.hid (fit_val 40 l)
    have hJl : (fitJ 40 l).length ≤ 40 := fitJ_len 40 l [] (by simp)
    clear hc hg hb HB2 HS HT
    generalize fitJ 40 l = J at *
    generalize setR rows = r at *
    obtain ⟨t1, ht1⟩ : ∃ t, rollT r J e y = t := ⟨_, rfl⟩
    have HR1 := Lib.hid (shRoll_any HC.out HG.out (by omega) HV.out.good e y ht1)
    have HT1 := Lib.hid ht1
    clear ht1
    go_wp2_with fail
    refine HR1.out.mono ?_
    rintro en w4 ⟨rfl, hb⟩
    have HB4 := Lib.hid (belows_then HB3.out HB3.out.size hb)
    have HC4 := Lib.hid (HC.out.below hb)
    have HG4 := Lib.hid (HG.out.below hb)
    clear hb HC HG HR1 HB3
    have hcs : (y < 2000 ∨ 2000 ≤ y ∧ (2099 < y ∨ y ≤ 2099 ∧ (e < 1 ∨ 1 ≤ e ∧ 9 < e))) ∨ (2000 ≤ y ∧ y ≤ 2099 ∧ 1 ≤ e ∧ e ≤ 9) := by omega
    rcases hcs with hbad | ⟨h1, h2, h3, h4⟩
    · have ht : t1 = ((0, 0, 0), 1) := by rw [← HT1.out]; exact roll_bad (by omega)
      subst ht
      clear HT1
      rcases hbad with h1 | ⟨h1, h2 | ⟨h2, h3 | ⟨h3, h4⟩⟩⟩
      all_goals
        go_wp2_with fail
        go_ret
        exact ⟨by first | rfl | simp, HB4.out⟩
    · have w1 : IntKind.i64.wrap (y - 2000) = y - 2000 := wrap_is (by omega) (by omega)
      have w2' : IntKind.i64.wrap (12 * (y - 2000)) = 12 * (y - 2000) := wrap_is (by omega) (by omega)
      have w3' : IntKind.i64.wrap (12 * (y - 2000) + 11) = 12 * (y - 2000) + 11 := wrap_is (by omega) (by omega)
      have w5 : IntKind.i64.wrap (y + 1) = y + 1 := wrap_is (by omega) (by omega)
      obtain ⟨S, hS⟩ : ∃ S, shT r J e (12 * (y - 2000) + 11) = S := ⟨_, rfl⟩
      have HM := Lib.hid (shMake_any HC4.out HG4.out (by omega) HV.out.good e (12 * (y - 2000) + 11) (i64_ofB (by omega) (by omega)) hS)
      have hft := shT_fit r J e (12 * (y - 2000) + 11)
      have hrc := roll_cases r J e y
      have HNX := Lib.hid (fun h1 h2 => roll_next (r := r) (e := e) (y := y) HV.out h1 h2)
      rw [hS] at hft
      rw [hS, HT1.out] at hrc
      rw [HT1.out] at HNX
      generalize ((balT J e 0 (12 * (y - 2000) + 11)).1.filter (pickB r [1])).length = n1 at *
      have HRC := Lib.hid hrc
      have HFT := Lib.hid hft
      obtain ⟨⟨s1, s2, s3, s4, s5, s6⟩, se⟩ := S
      obtain ⟨⟨x, yy, z⟩, er⟩ := t1
      simp only at HM HFT HRC HNX
      obtain ⟨t2, ht2⟩ : ∃ t, rollT r J e (y + 1) = t := ⟨_, rfl⟩
      have HR2 : Hid (∀ W, Below w4.heap.size w4 W → Calls Tryz.prog 21 #[.pointer (some ⟨c, 0, none⟩), .pointer (some ⟨g, 0, none⟩), .int .i64 e, .int .i64 (y + 1)] W fun en w' => en = .returned (.tuple #[.int .i64 t2.1.1, .int .i64 t2.1.2.1, .int .i64 t2.1.2.2, .int .i64 t2.2]) ∧ Below W.heap.size W w') := Lib.hid (fun W hb => shRoll_any (HC4.out.below hb) (HG4.out.below hb) (by omega) HV.out.good e (y + 1) ht2)
      rw [ht2] at HNX
      clear hS hft hrc HT1 ht2 HC4 HG4 HV hJl
      obtain ⟨⟨u1, u2, u3⟩, er2⟩ := t2
      simp only at HR2 HNX
      go_wp2_with fail
      refine HM.out.mono ?_
      rintro en w5' ⟨a1, m1, c1, a2, m2, c2, a3, m3, c3, rfl, hm2, hm3, hb⟩
      clear hm2 hm3
      have hba := hb.alloc hb.size (.cells #[.slice a1 m1 c1, .slice a2 m2 c2, .slice a3 m3 c3, .int .i64 s1, .int .i64 s2, .int .i64 s3, .int .i64 s4, .int .i64 s5, .int .i64 s6] 49)
      have HBA := Lib.hid hba
      have HB5 := Lib.hid (belows_then HB4.out HB4.out.size hba)
      have HZ5 := Lib.hid (blk_new w5' (.cells #[.slice a1 m1 c1, .slice a2 m2 c2, .slice a3 m3 c3, .int .i64 s1, .int .i64 s2, .int .i64 s3, .int .i64 s4, .int .i64 s5, .int .i64 s6] 49))
      clear hb hba HM HB4
      rcases HRC.out with ⟨he, hz⟩ | ⟨_, hse, he, hz⟩
      · have hz' : x = 0 ∧ yy = 0 ∧ z = 0 := by simpa using hz
        obtain ⟨rfl, rfl, rfl⟩ := hz'
        have he' : (er != 0) = true := by simpa using he
        clear HRC HNX hz he
        go_wp2_with fail
        go_ret
        exact ⟨by first | rfl | simp, HB5.out⟩
      · have hz' : x = s4 ∧ yy = s5 ∧ z = s4 + s5 := by simpa using hz
        obtain ⟨rfl, rfl, rfl⟩ := hz'
        subst hse
        subst he
        have f1 : -1000000000000000 ≤ x ∧ x ≤ 1000000000000000 := by simpa [fitsB] using HFT.out.1
        have f2 : -1000000000000000 ≤ yy ∧ yy ≤ 1000000000000000 := by simpa [fitsB] using HFT.out.2
        have w6 : IntKind.i64.wrap (x + yy) = x + yy := wrap_is (by omega) (by omega)
        have hn := HNX.out rfl
        have HN := Lib.hid hn
        clear HRC HNX hz f1 f2 hn
        go_wp2_with fail
        refine (HR2.out _ HBA.out).mono ?_
        rintro en w7 ⟨rfl, hb⟩
        have HB7 := Lib.hid (belows_then HB5.out HB5.out.size hb)
        clear hb
        by_cases h2e : er2 = 0
        · subst h2e
          obtain rfl := HN.out rfl
          clear HN
          go_wp2_with fail
          go_ret
          exact ⟨by first | rfl | simp, HB7.out⟩
        · have h2e' : (er2 != 0) = true := by simpa using h2e
          clear HN h2e
          go_wp2_with fail
          go_ret
          exact ⟨by first | rfl | simp, HB7.out⟩

theorem sheetRolls_row (a0 : Option Addr) (len0 cap0 : Nat) (x0 : List Ac) (a1 : Option Addr) (len1 cap1 : Nat) (x1 : List Jn) (e y : Int) (w : World) (y0 : tAcs.R w (fun _ => True) [.slice a0 len0 cap0] x0) (y1 : tJns.R w (fun _ => True) [.slice a1 len1 cap1] x1) (he : I64 e) (hy : I64 y) :
    Calls Tryz.prog 6 #[.slice a0 len0 cap0, .slice a1 len1 cap1, .int .i64 e, .int .i64 y] w fun en w' => en = .returned (.bool true) ∧ Below w.heap.size w w' := by
  obtain ⟨a, cap, hv, hs, h1, h2, _⟩ := y0
  obtain ⟨b, cap', hv', hs', h1', h2', _⟩ := y1
  simp only [List.cons.injEq, Value.slice.injEq, and_true] at hv hv'
  obtain ⟨rfl, rfl, rfl⟩ := hv
  obtain ⟨rfl, rfl, rfl⟩ := hv'
  exact sheetRolls_any x0 a0 cap0 x1 a1 cap1 e y hy w hs (Nat.le_trans h1 h2) hs' (Nat.le_trans h1' h2')
end Go.Proofs.YtapmedcgfnlchaaGreat
