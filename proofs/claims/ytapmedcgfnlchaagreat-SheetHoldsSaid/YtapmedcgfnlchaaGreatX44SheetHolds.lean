/- law 12: the first calls are as the document fixes them. -/
import Derived.Test.YtapmedcgfnlchaaGreatX43SheetHolds
import Derived.Deep.RegionHeld3
set_option linter.unusedVariables false
set_option linter.unusedSimpArgs false
namespace Go.Proofs.YtapmedcgfnlchaaGreat
open Go.RowKit Go.Maps Go.Deep

/-- a list that lies in one block, element behind element -/
theorem sl_block {P : Program} {e : TypeId} {α : Type} {T : Ty P e α} {w : World} {F : Nat → Prop} {b : Nat} (xs : List α) (css : List (List Value)) (hl : css.length = xs.length) (hn : ∀ c ∈ css, c.length = T.n)
    (hb : w.heap[b]? = some (.cells css.flatten.toArray e (0, 0))) (hF : F b) (hr : ∀ (i : Nat) (c : List Value) (x : α), css[i]? = some c → xs[i]? = some x → T.R w F c x) : Sl T w F (some ⟨b, 0, none⟩) xs := by
  intro i x hx
  have hil := (List.getElem?_eq_some_iff.1 hx).1
  have hci : css[i]? = some css[i] := List.getElem?_eq_getElem (by omega)
  refine ⟨_, css[i], rfl, hF, (Array.getElem?_eq_some_iff.1 hb).1, fun j u hu => ?_, hr i _ x hci hx⟩
  have hfl := flat_at hn i j _ u hci hu
  rw [Go.Addr.add_add]
  have : (⟨b, 0, none⟩ : Addr).add (i * T.n + j) = ⟨b, i * T.n + j, none⟩ := by unfold Addr.add; split <;> simp_all
  rw [this, cell_of_row w b _ _ e (0, 0) hb]
  simpa using hfl

set_option maxHeartbeats 8000000 in
set_option maxRecDepth 100000 in
theorem alive12 (w : World) : Calls Tryz.prog 16 #[] w fun e w' => e = .returned (.bool true) ∧ Below w.heap.size w w' := by
  have HBA := Lib.hid ((((Below.refl w.heap.size w).alloc (Nat.le_refl _) (.cells #[.int .i64 100, .int .i64 1, .bool false, .int .i64 400, .int .i64 4, .bool false] 53)).alloc (by simp) (.cells #[.int .i64 100, .int .i64 5, .int .i64 0, .int .i64 400, .int .i64 (-5), .int .i64 0] 57)).alloc (by simp; omega) (.cells #[.int .i64 1, .int .i64 1, .int .i64 3, .string ⟨#[]⟩, .slice (some ⟨w.heap.size + 1, 0, none⟩) 2 2, .bool false] 60))
  have HA1 : Hid (((((w.alloc (.cells #[.int .i64 100, .int .i64 1, .bool false, .int .i64 400, .int .i64 4, .bool false] 53)).alloc (.cells #[.int .i64 100, .int .i64 5, .int .i64 0, .int .i64 400, .int .i64 (-5), .int .i64 0] 57)).alloc (.cells #[.int .i64 1, .int .i64 1, .int .i64 3, .string ⟨#[]⟩, .slice (some ⟨w.heap.size + 1, 0, none⟩) 2 2, .bool false] 60))).heap[w.heap.size]? = some (.cells #[.int .i64 100, .int .i64 1, .bool false, .int .i64 400, .int .i64 4, .bool false] 53 (0, 0))) := Lib.hid (blk_alloc (blk_alloc (blk_new w (.cells #[.int .i64 100, .int .i64 1, .bool false, .int .i64 400, .int .i64 4, .bool false] 53)) (.cells #[.int .i64 100, .int .i64 5, .int .i64 0, .int .i64 400, .int .i64 (-5), .int .i64 0] 57)) (.cells #[.int .i64 1, .int .i64 1, .int .i64 3, .string ⟨#[]⟩, .slice (some ⟨w.heap.size + 1, 0, none⟩) 2 2, .bool false] 60))
  have HL1 : Hid (((((w.alloc (.cells #[.int .i64 100, .int .i64 1, .bool false, .int .i64 400, .int .i64 4, .bool false] 53)).alloc (.cells #[.int .i64 100, .int .i64 5, .int .i64 0, .int .i64 400, .int .i64 (-5), .int .i64 0] 57)).alloc (.cells #[.int .i64 1, .int .i64 1, .int .i64 3, .string ⟨#[]⟩, .slice (some ⟨w.heap.size + 1, 0, none⟩) 2 2, .bool false] 60))).heap[w.heap.size + 1]? = some (.cells #[.int .i64 100, .int .i64 5, .int .i64 0, .int .i64 400, .int .i64 (-5), .int .i64 0] 57 (0, 0))) := Lib.hid (by
    have := blk_alloc (blk_new (w.alloc (.cells #[.int .i64 100, .int .i64 1, .bool false, .int .i64 400, .int .i64 4, .bool false] 53)) (.cells #[.int .i64 100, .int .i64 5, .int .i64 0, .int .i64 400, .int .i64 (-5), .int .i64 0] 57)) (.cells #[.int .i64 1, .int .i64 1, .int .i64 3, .string ⟨#[]⟩, .slice (some ⟨w.heap.size + 1, 0, none⟩) 2 2, .bool false] 60)
    simpa using this)
  have HJ1 : Hid (((((w.alloc (.cells #[.int .i64 100, .int .i64 1, .bool false, .int .i64 400, .int .i64 4, .bool false] 53)).alloc (.cells #[.int .i64 100, .int .i64 5, .int .i64 0, .int .i64 400, .int .i64 (-5), .int .i64 0] 57)).alloc (.cells #[.int .i64 1, .int .i64 1, .int .i64 3, .string ⟨#[]⟩, .slice (some ⟨w.heap.size + 1, 0, none⟩) 2 2, .bool false] 60))).heap[w.heap.size + 2]? = some (.cells #[.int .i64 1, .int .i64 1, .int .i64 3, .string ⟨#[]⟩, .slice (some ⟨w.heap.size + 1, 0, none⟩) 2 2, .bool false] 60 (0, 0))) := Lib.hid (by
    have := blk_new ((w.alloc (.cells #[.int .i64 100, .int .i64 1, .bool false, .int .i64 400, .int .i64 4, .bool false] 53)).alloc (.cells #[.int .i64 100, .int .i64 5, .int .i64 0, .int .i64 400, .int .i64 (-5), .int .i64 0] 57)) (.cells #[.int .i64 1, .int .i64 1, .int .i64 3, .string ⟨#[]⟩, .slice (some ⟨w.heap.size + 1, 0, none⟩) 2 2, .bool false] 60)
    simpa using this)
  have HSA : Hid (Sl tAc (((w.alloc (.cells #[.int .i64 100, .int .i64 1, .bool false, .int .i64 400, .int .i64 4, .bool false] 53)).alloc (.cells #[.int .i64 100, .int .i64 5, .int .i64 0, .int .i64 400, .int .i64 (-5), .int .i64 0] 57)).alloc (.cells #[.int .i64 1, .int .i64 1, .int .i64 3, .string ⟨#[]⟩, .slice (some ⟨w.heap.size + 1, 0, none⟩) 2 2, .bool false] 60)) (fun _ => True) (some ⟨w.heap.size, 0, none⟩) r12) := Lib.hid (sl_block r12 [acs ⟨100, 1, false⟩, acs ⟨400, 4, false⟩] rfl (by simp; rfl) HA1.out trivial (fun i c x hi hx => by
    match i, hi, hx with
    | 0, hi, hx => simp [r12] at hi hx; subst hi; subst hx; exact ac_mk _ (by decide) (by decide)
    | 1, hi, hx => simp [r12] at hi hx; subst hi; subst hx; exact ac_mk _ (by decide) (by decide)
    | i + 2, hi, hx => simp at hi))
  have HSJ : Hid (Sl tJn (((w.alloc (.cells #[.int .i64 100, .int .i64 1, .bool false, .int .i64 400, .int .i64 4, .bool false] 53)).alloc (.cells #[.int .i64 100, .int .i64 5, .int .i64 0, .int .i64 400, .int .i64 (-5), .int .i64 0] 57)).alloc (.cells #[.int .i64 1, .int .i64 1, .int .i64 3, .string ⟨#[]⟩, .slice (some ⟨w.heap.size + 1, 0, none⟩) 2 2, .bool false] 60)) (fun _ => True) (some ⟨w.heap.size + 2, 0, none⟩) [j12]) :=
    Lib.hid (sl_oneJ (j := j12) (a := some ⟨w.heap.size + 1, 0, none⟩) (cap := 2) HJ1.out trivial (jn_mk j12 (by decide) (by decide) (by decide) (by decide) (sl_lines2 ⟨100, 5, 0⟩ ⟨400, -5, 0⟩ HL1.out trivial ⟨by decide, by decide, by decide⟩ ⟨by decide, by decide, by decide⟩) (by decide) (by decide) (by rw [line_bytes]; decide)))
  go_enter Tryz.func16, Tryz.ntmps16
  go_wp2_with fail
  refine (set_any r12 (some ⟨w.heap.size, 0, none⟩) 2 [j12] (some ⟨w.heap.size + 2, 0, none⟩) 1 _ HSA.out (by decide) HSJ.out (by decide)).mono ?_
  rintro en w1 ⟨c, g, ra, fa, ga, rc, fc, gc, mb, rfl, hc, hg, _, _, hb⟩
  rw [fit12] at hg
  rw [set12] at hc
  have HC := Lib.hid hc
  have HG := Lib.hid hg
  have HB1 := Lib.hid (belows_then HBA.out HBA.out.size hb)
  have hgood : GoodJ [j12] := by
    have := (fit_val 40 [j12]).good
    rwa [fit12] at this
  clear hc hg hb HBA HA1 HL1 HJ1 HSA HSJ
  generalize (setR r12).length = nr at *
  generalize (fitJ 40 [j12]).length = nj at *
  go_wp2_with fail
  refine (shMake_any HC.out HG.out (by decide) hgood 1 5 (by decide) sh12a).mono ?_
  rintro en w2 ⟨a1, m1, c1, a2, m2, c2, a3, m3, c3, rfl, hm, hm3, hb⟩
  rw [len12] at hm
  obtain rfl := hm rfl
  clear hm hm3
  have HB2 := Lib.hid (belows_then HB1.out HB1.out.size hb)
  have HBS : Hid (Below w2.heap.size w2 (w2.alloc (.cells #[.slice a1 1 c1, .slice a2 m2 c2, .slice a3 m3 c3, .int .i64 5, .int .i64 0, .int .i64 0, .int .i64 0, .int .i64 5, .int .i64 0] 49))) := Lib.hid ((Below.refl _ _).alloc (Nat.le_refl _) _)
  have HZ2 := Lib.hid (blk_new w2 (.cells #[.slice a1 1 c1, .slice a2 m2 c2, .slice a3 m3 c3, .int .i64 5, .int .i64 0, .int .i64 0, .int .i64 0, .int .i64 5, .int .i64 0] 49))
  have HB3 := Lib.hid (belows_then HB2.out HB2.out.size HBS.out)
  have HC3 := Lib.hid ((HC.out.below hb).below HBS.out)
  have HG3 := Lib.hid ((HG.out.below hb).below HBS.out)
  clear hb HC HG HB1
  go_wp2_with fail
  refine (shMake_any HC3.out HG3.out (by decide) hgood 1 14 (by decide) sh12b).mono ?_
  rintro en w4 ⟨b1, n1, d1, b2, n2, d2, b3, n3, d3, rfl, hm2, hm3, hb⟩
  clear hm2 hm3
  have HB4 := Lib.hid (belows_then HB3.out HB3.out.size hb)
  have HZ4 := Lib.hid (blk_below HZ2.out hb)
  have hz4 := blk_cells HZ4.out
  have hzl4 := blk_lt HZ4.out
  have HBF := Lib.hid (HB4.out.alloc HB4.out.size (.cells #[.slice b1 n1 d1, .slice b2 n2 d2, .slice b3 n3 d3, .int .i64 5, .int .i64 0, .int .i64 0, .int .i64 5, .int .i64 0, .int .i64 0] 49))
  clear hb HC3 HG3 HB3 HZ2 HBS
  go_wp2_with fail
  refine (shHolds_any (.slice a1 1 c1) (.slice a2 m2 c2) (.slice a3 m3 c3) 5 0 0 0 5 0 _ rfl (by decide) (by decide) (by decide) (by decide) (by decide) (by decide) (q := true) (by decide)).mono ?_
  rintro en w5 ⟨rfl, hb⟩
  have HB5 := Lib.hid (belows_then HBF.out HBF.out.size hb)
  have HZ5 := Lib.hid (blk_below (blk_new w4 (.cells #[.slice b1 n1 d1, .slice b2 n2 d2, .slice b3 n3 d3, .int .i64 5, .int .i64 0, .int .i64 0, .int .i64 5, .int .i64 0, .int .i64 0] 49)) hb)
  have hz5 := blk_cells HZ5.out
  have hzl5 := blk_lt HZ5.out
  have HZ6 := Lib.hid (blk_below (blk_alloc HZ4.out (.cells #[.slice b1 n1 d1, .slice b2 n2 d2, .slice b3 n3 d3, .int .i64 5, .int .i64 0, .int .i64 0, .int .i64 5, .int .i64 0, .int .i64 0] 49)) hb)
  have hz6 := blk_cells HZ6.out
  have hzl6 := blk_lt HZ6.out
  clear hb hz4 hzl4
  go_wp2_with fail
  go_ret
  exact ⟨rfl, HB5.out⟩
end Go.Proofs.YtapmedcgfnlchaaGreat


/- SheetHolds: of every six sums whether both sides are the same. -/
set_option linter.unusedVariables false
set_option linter.unusedSimpArgs false
namespace Go.Proofs.YtapmedcgfnlchaaGreat
open Go.RowKit Go.Maps Go.Deep

set_option maxHeartbeats 8000000 in
set_option maxRecDepth 100000 in
theorem sheetHolds_any (a b c d e f : Int) (ha : I64 a) (hb : I64 b) (hc : I64 c) (hd : I64 d) (he : I64 e) (hf : I64 f) (w : World) : Calls Tryz.prog 4 #[.int .i64 a, .int .i64 b, .int .i64 c, .int .i64 d, .int .i64 e, .int .i64 f] w fun en w' => en = .returned (.bool true) ∧ Below w.heap.size w w' := by
  have HI := Lib.hid (And.intro ha (And.intro hb (And.intro hc (And.intro hd (And.intro he hf)))))
  clear ha hb hc hd he hf
  go_enter Tryz.func4, Tryz.ntmps4
  go_wp2_with fail
  refine (alive12 w).mono ?_
  rintro en w1 ⟨rfl, hb1⟩
  have HB1 := Lib.hid hb1
  have HB3 : Hid (Below w.heap.size w ((w1.alloc (.cells #[.slice none 0 0, .slice none 0 0, .slice none 0 0, .int .i64 a, .int .i64 b, .int .i64 c, .int .i64 d, .int .i64 e, .int .i64 f] 49)).alloc (.cells #[.int .i64 a, .int .i64 b, .int .i64 c, .int .i64 d, .int .i64 e, .int .i64 f] 3))) := Lib.hid ((hb1.alloc hb1.size _).alloc (by have := hb1.size; simp; omega) _)
  have HZ3 := Lib.hid (blk_alloc (blk_new w1 (.cells #[.slice none 0 0, .slice none 0 0, .slice none 0 0, .int .i64 a, .int .i64 b, .int .i64 c, .int .i64 d, .int .i64 e, .int .i64 f] 49)) (.cells #[.int .i64 a, .int .i64 b, .int .i64 c, .int .i64 d, .int .i64 e, .int .i64 f] 3))
  have HL3 : Hid (((w1.alloc (.cells #[.slice none 0 0, .slice none 0 0, .slice none 0 0, .int .i64 a, .int .i64 b, .int .i64 c, .int .i64 d, .int .i64 e, .int .i64 f] 49)).alloc (.cells #[.int .i64 a, .int .i64 b, .int .i64 c, .int .i64 d, .int .i64 e, .int .i64 f] 3)).heap[w1.heap.size + 1]? = some (.cells #[.int .i64 a, .int .i64 b, .int .i64 c, .int .i64 d, .int .i64 e, .int .i64 f] 3 (0, 0))) := Lib.hid (by
    have := blk_new (w1.alloc (.cells #[.slice none 0 0, .slice none 0 0, .slice none 0 0, .int .i64 a, .int .i64 b, .int .i64 c, .int .i64 d, .int .i64 e, .int .i64 f] 49)) (.cells #[.int .i64 a, .int .i64 b, .int .i64 c, .int .i64 d, .int .i64 e, .int .i64 f] 3)
    simpa using this)
  clear hb1 HB1
  go_wp2_with fail
  refine abs_world (S := fun wx => Below w.heap.size w wx ∧ wx.heap[w1.heap.size]? = some (.cells #[.slice none 0 0, .slice none 0 0, .slice none 0 0, .int .i64 a, .int .i64 b, .int .i64 c, .int .i64 d, .int .i64 e, .int .i64 f] 49 (0, 0)) ∧ wx.heap[w1.heap.size + 1]? = some (.cells #[.int .i64 a, .int .i64 b, .int .i64 c, .int .i64 d, .int .i64 e, .int .i64 f] 3 (0, 0))) ?_ ⟨HB3.out, HZ3.out, HL3.out⟩
  clear HB3 HZ3 HL3
  rintro wx ⟨hbx, hzx, hlx⟩
  have HBX := Lib.hid hbx
  have hcz := blk_cells hzx
  have hlz := blk_lt hzx
  have hll := blk_lt hlx
  have HLX := Lib.hid (sl_intsB [a, b, c, d, e, f] hlx (by simp; exact HI.out))
  clear hbx hzx hlx
  go_loopw [15, 16] (fun vo vi wr => ∃ n : Nat, n ≤ 6 ∧ vi = .int .i64 n ∧ vo = .bool (([a, b, c, d, e, f].take n).all fitsB) ∧ wr = wx) (fun _ vi _ => 6 - (intOf vi).toNat)
  case atStart => exact ⟨0, by omega, rfl, rfl, rfl⟩
  case round =>
    obtain ⟨n, hn, rfl, rfl, rfl⟩ := hrel
    by_cases hlt : n < 6
    · obtain ⟨ad, hae, hadl, hc0⟩ := int_at HLX.out n (by simpa using hlt)
      injection hae with hae
      subst hae
      have hc0' : wr.cell? ⟨w1.heap.size + 1, n, none⟩ = some (.int .i64 ([a, b, c, d, e, f][n]'(by simpa using hlt))) := by
        rw [← hc0]
        congr 1
        unfold Addr.add
        split <;> simp_all
      have HN := Lib.hid (all_take_succ fitsB [a, b, c, d, e, f] n (by simpa using hlt))
      generalize [a, b, c, d, e, f][n]'(by simpa using hlt) = x at *
      cases hq : ([a, b, c, d, e, f].take n).all fitsB
      · have HN2 : Hid (([a, b, c, d, e, f].take (n + 1)).all fitsB = false) := Lib.hid (by rw [HN.out, hq]; rfl)
        clear hq
        go_wp2_with fail
        go_roundw
        case rel => exact ⟨n + 1, by omega, by go_num, by rw [HN2.out], by first | trivial | rfl⟩
        case measure => simp [intOf]; omega
      · have HN2 : Hid (([a, b, c, d, e, f].take (n + 1)).all fitsB = fitsB x) := Lib.hid (by rw [HN.out, hq]; rfl)
        clear hq
        go_wp2_with fail
        refine (rfits_any x _).mono ?_
        rintro en w2 ⟨rfl, rfl⟩
        go_wp2_with fail
        go_roundw
        case rel => exact ⟨n + 1, by omega, by go_num, by rw [HN2.out], by first | trivial | rfl⟩
        case measure => simp [intOf]; omega
    · obtain rfl : n = 6 := by omega
      have ht : ([a, b, c, d, e, f].take 6).all fitsB = [a, b, c, d, e, f].all fitsB := by simp
      rw [ht]
      have HH := Lib.hid (shHolds_any (.slice none 0 0) (.slice none 0 0) (.slice none 0 0) a b c d e f wr rfl HI.out.1 HI.out.2.1 HI.out.2.2.1 HI.out.2.2.2.1 HI.out.2.2.2.2.1 HI.out.2.2.2.2.2 rfl)
      cases hall : [a, b, c, d, e, f].all fitsB
      · have hs : sheetB a b c d e f = false := by unfold sheetB; rw [hall]; rfl
        rw [hs] at HH
        clear hall hs ht
        go_wp2_with fail
        refine HH.out.mono ?_
        rintro en w2 ⟨rfl, hb⟩
        go_wp2_with fail
        go_ret
        exact ⟨rfl, belows_then HBX.out HBX.out.size hb⟩
      · have hs : sheetB a b c d e f = (a == b + c + d + e + f) := by unfold sheetB; rw [hall]; rfl
        rw [hs] at HH
        simp only [List.all_cons, List.all_nil, Bool.and_true, Bool.and_eq_true] at hall
        obtain ⟨k1, k2, k3, k4, k5, k6⟩ := hall
        have b1 := fit_bd k1; have b2 := fit_bd k2; have b3 := fit_bd k3; have b4 := fit_bd k4; have b5 := fit_bd k5; have b6 := fit_bd k6
        have w1' : IntKind.i64.wrap (b + c) = b + c := wrap_is (by omega) (by omega)
        have w2' : IntKind.i64.wrap (b + c + d) = b + c + d := wrap_is (by omega) (by omega)
        have w3' : IntKind.i64.wrap (b + c + d + e) = b + c + d + e := wrap_is (by omega) (by omega)
        have w4' : IntKind.i64.wrap (b + c + d + e + f) = b + c + d + e + f := wrap_is (by omega) (by omega)
        clear k1 k2 k3 k4 k5 k6 b1 b2 b3 b4 b5 b6 hs ht
        go_wp2_with fail
        refine HH.out.mono ?_
        rintro en w2 ⟨rfl, hb⟩
        go_wp2_with fail
        go_ret
        exact ⟨by first | rfl | simp, belows_then HBX.out HBX.out.size hb⟩
theorem sheetHolds_row (a b c d e f : Int) (w : World) (ha : I64 a) (hb : I64 b) (hc : I64 c) (hd : I64 d) (he : I64 e) (hf : I64 f) : Calls Tryz.prog 4 #[.int .i64 a, .int .i64 b, .int .i64 c, .int .i64 d, .int .i64 e, .int .i64 f] w fun en w' => en = .returned (.bool true) ∧ Below w.heap.size w w' :=
  sheetHolds_any a b c d e f ha hb hc hd he hf w
end Go.Proofs.YtapmedcgfnlchaaGreat
