/- SheetTells: what is owned, owed, held, was retained, is earned, stands in accounts that are not there, or the error; both sides are the same; lists kept. -/
import Derived.Test.YtfnmlpnncjhnmaaGreatX38SheetMoves
import Derived.Test.YtfnmlpnncjhnmaaGreatX31SheetMoves
import Derived.Test.YtfnmlpnncjhnmaaGreatX39SheetMoves
import Derived.Test.YtfnmlpnncjhnmaaGreatX37SheetMoves
import Derived.Test.YtfnmlpnncjhnmaaGreatX45SheetMoves
set_option linter.unusedVariables false
set_option linter.unusedSimpArgs false
namespace Go.Proofs.YtfnmlpnncjhnmaaGreat
open Go.RowKit Go.Maps Go.Deep

theorem shT_bad {r : List Ac} {J : List Jn} {e p : Int} (h : (shT r J e p).2 ≠ 0) : (shT r J e p).1 = (0, 0, 0, 0, 0, 0) := by
  unfold shT at h ⊢
  split
  · rfl
  · rename_i h1
    rw [if_neg h1] at h
    exact absurd rfl h
theorem sh_all {r : List Ac} (hr : GoodA r) {J : List Jn} {e p : Int} (h : (shT r J e p).2 = 0) : [(shT r J e p).1.1, (shT r J e p).1.2.1, (shT r J e p).1.2.2.1, (shT r J e p).1.2.2.2.1, (shT r J e p).1.2.2.2.2.1, (shT r J e p).1.2.2.2.2.2].all fitsB = true := by
  obtain ⟨h1, h2, _⟩ := shD_is hr J e p
  rw [← h2 h]
  rw [h] at h1
  by_cases g0 : (balT J e 0 p).2 = 0
  · by_cases g1 : (retD r J e p).2 = 0
    · by_cases g2 : (refN r J e (janOf p) p).2 = 0
      · rw [shD_3 g0 g1 g2] at h1 ⊢
        cases g : (sixD r J e p).all fitsB
        · rw [g] at h1
          cases h1
        · exact g
      · rw [shD_2 g0 g1 g2] at h1
        exact absurd h1 g2
    · rw [shD_1 g0 g1] at h1
      exact absurd h1 g1
  · rw [shD_0 g0] at h1
    exact absurd h1 g0
theorem pair_three {x y z : Value × List (Int × Int)} (h1 : ApartV x.1 y.1) (h2 : ApartV x.1 z.1) (h3 : ApartV y.1 z.1) : [x, y, z].Pairwise (fun p q => ApartV p.1 q.1) :=
  List.pairwise_cons.2 ⟨fun q hq => by
    simp only [List.mem_cons, List.not_mem_nil, or_false] at hq
    rcases hq with rfl | rfl
    · exact h1
    · exact h2, List.pairwise_cons.2 ⟨fun q hq => by rw [List.mem_singleton.1 hq]; exact h3, List.pairwise_singleton _ _⟩⟩
theorem shL_lists {w w' : World} {X1 X2 X3 : List (Int × Int)} {t : (Int × Int × Int × Int × Int × Int) × Int} {en : Ending} (h : ShL w X1 X2 X3 t en w') : ∃ a1 c1 a2 c2 a3 c3 l1 l2 l3,
    en = .returned (.tuple #[.agg #[.slice a1 (List.length l1) c1, .slice a2 (List.length l2) c2, .slice a3 (List.length l3) c3, .int .i64 t.1.1, .int .i64 t.1.2.1, .int .i64 t.1.2.2.1, .int .i64 t.1.2.2.2.1, .int .i64 t.1.2.2.2.2.1, .int .i64 t.1.2.2.2.2.2], .int .i64 t.2]) ∧
    (∀ p ∈ [(Value.slice a1 l1.length c1, l1), (.slice a2 l2.length c2, l2), (.slice a3 l3.length c3, l3)], OwnL tBal w' w.heap.size p.1 p.2) ∧ [(Value.slice a1 l1.length c1, l1), (.slice a2 l2.length c2, l2), (.slice a3 l3.length c3, l3)].Pairwise (fun p q => ApartV p.1 q.1) ∧ Below w.heap.size w w' ∧ (t.2 = 0 → l1 = X1 ∧ l2 = X2 ∧ l3 = X3) ∧ (t.2 ≠ 0 → l1 = [] ∧ l2 = [] ∧ l3 = []) := by
  obtain ⟨a1, m1, c1, a2, m2, c2, a3, m3, c3, rfl, h0, h1, hb⟩ := h
  by_cases h : t.2 = 0
  · obtain ⟨⟨rfl, rfl, rfl⟩, ho, hp⟩ := h0 h
    rw [List.pairwise_cons, List.pairwise_cons] at hp
    obtain ⟨g1, g2, _⟩ := hp
    refine ⟨a1, c1, a2, c2, a3, c3, X1, X2, X3, rfl, fun p hp => ho p ?_, pair_three ?_ ?_ ?_, hb, fun _ => ⟨rfl, rfl, rfl⟩, fun h' => absurd h h'⟩
    · simp only [List.mem_cons, List.not_mem_nil, or_false] at hp ⊢
      rcases hp with h | h | h
      · exact .inr (.inr h)
      · exact .inr (.inl h)
      · exact .inl h
    · exact ApartV.symm (g2 _ (by simp))
    · exact ApartV.symm (g1 _ (by simp))
    · exact ApartV.symm (g1 _ (by simp))
  · obtain ⟨e1, e2, e3⟩ := h1 h
    injection e1 with ea1 em1 ec1
    injection e2 with ea2 em2 ec2
    injection e3 with ea3 em3 ec3
    subst ea1 em1 ec1 ea2 em2 ec2 ea3 em3 ec3
    refine ⟨none, 0, none, 0, none, 0, [], [], [], rfl, fun p hp => ?_, pair_three (.inl rfl) (.inl rfl) (.inl rfl), hb, fun h' => absurd h' h, fun _ => ⟨rfl, rfl, rfl⟩⟩
    simp only [List.mem_cons, List.not_mem_nil, or_false, List.length_nil] at hp
    rcases hp with rfl | rfl | rfl <;> exact OwnL.nil _ _

set_option maxHeartbeats 16000000 in
set_option maxRecDepth 100000 in
theorem sheetTells_any (rows : List Ac) (ra : Option Addr) (rc : Nat) (l : List Jn) (la : Option Addr) (lc : Nat) (e p : Int) (hpi : I64 p) (w : World) {F G : Nat → Prop} (hs : Sl tAc w F ra rows) (hl : rows.length ≤ maxLen) (ht : Sl tJn w G la l) (hm : l.length ≤ maxLen) :
    Calls Tryz.prog 5 #[.slice ra rows.length rc, .slice la l.length lc, .int .i64 e, .int .i64 p] w fun en w' => en = .returned (.bool true) ∧ Below w.heap.size w w' := by
  have HS := Lib.hid hs
  have HT := Lib.hid ht
  have HPI := Lib.hid hpi
  clear hs ht hpi
  go_enter Tryz.func5, Tryz.ntmps5
  go_wp2_with fail
  refine (few_any l la lc 40 _ HT.out hm (by omega)).mono ?_
  rintro en w1 ⟨b, rfl, _, hb⟩
  have HB1 := Lib.hid hb
  clear hb
  cases b
  · go_wp2_with fail
    refine (alive12 w1).mono ?_
    rintro en w2 ⟨rfl, hb⟩
    have HB2 := Lib.hid (belows_then HB1.out HB1.out.size hb)
    clear hb
    go_wp2_with fail
    go_ret
    exact ⟨rfl, HB2.out⟩
  · go_wp2_with fail
    refine (alive12 w1).mono ?_
    rintro en w2 ⟨rfl, hb⟩
    have HB2 := Lib.hid (belows_then HB1.out HB1.out.size hb)
    clear hb HB1
    go_wp2_with fail
    refine (set_any rows ra rc l la lc w2 (Sl.keep (fun k hk _ => HB2.out.block k hk) HS.out) hl (Sl.keep (fun k hk _ => HB2.out.block k hk) HT.out) hm).mono ?_
    rintro en w3 ⟨c, g, xa, fa, ga, xc, fc, gc, mb, rfl, hc, hg, hxa, hfa, hb⟩
    have HB3 := Lib.hid (belows_then HB2.out HB2.out.size hb)
    have HV := Lib.hid (fit_val 40 l)
    have hJl : (fitJ 40 l).length ≤ 40 := fitJ_len 40 l [] (by simp)
    have HGA : Hid (GoodA (setR rows)) := Lib.hid (setFold_good (rows.take 30) [] GoodA.nil)
    have hrl : (setR rows).length ≤ 30 := by
      have := setFold_len (rows.take 30) []
      rw [List.length_take] at this
      simp only [List.length_nil] at this
      unfold setR
      omega
    generalize fitJ 40 l = J at *
    generalize setR rows = r at *
    have HC := Lib.hid hc
    have HG := Lib.hid hg
    have HXA : Hid (Sl tAc w3 (fun _ => True) xa r) := Lib.hid (Sl.keep (fun k hk _ => rfl) hxa)
    have HFA : Hid (Sl tJn w3 (fun _ => True) fa J) := Lib.hid (Sl.keep (fun k hk _ => rfl) hfa)
    obtain ⟨D, hD⟩ : ∃ D, shD r J e p = D := ⟨_, rfl⟩
    obtain ⟨T, hT⟩ : ∃ T, shT r J e p = T := ⟨_, rfl⟩
    have HRB := Lib.hid (r25Sheet_any r xa xc J fa fc e p w3 HXA.out (by omega) HFA.out HV.out (by omega) hD)
    have hDT := shD_is HGA.out J e p
    have HALL := Lib.hid (fun h => sh_all HGA.out (J := J) (e := e) (p := p) h)
    have HHOL := Lib.hid (fun h => sh_holds HGA.out HV.out (e := e) (p := p) h)
    have HBAD := Lib.hid (fun h => shT_bad (r := r) (J := J) (e := e) (p := p) h)
    have HEZ := Lib.hid (fun h => (shE_ok (shT_ok (r := r) (J := J) (e := e) (p := p) h).1).1)
    rw [hT] at hDT HALL HHOL HBAD HEZ
    rw [hD] at hDT
    have HDT := Lib.hid hDT
    obtain ⟨DL, DE⟩ := D
    obtain ⟨⟨u1, u2, u3, u4, u5, u6⟩, ue⟩ := T
    simp only at HDT HALL HHOL HBAD HEZ HRB
    obtain rfl : DE = ue := HDT.out.1
    have HTT := Lib.hid hT
    clear hc hg hxa hfa hb HB2 HS HT hD hT hDT
    go_wp2_with fail
    refine HRB.out.mono ?_
    rintro en w4 ⟨wa, wc, rfl, hwl, hb⟩
    have HWL := Lib.hid hwl
    have HC4 := Lib.hid (HC.out.below hb)
    have HG4 := Lib.hid (HG.out.below hb)
    have HXA4 := Lib.hid (Sl.keep (fun k hk _ => hb.block k hk) HXA.out)
    have HFA4 := Lib.hid (Sl.keep (fun k hk _ => hb.block k hk) HFA.out)
    have HW4 := Lib.hid (belows_then HB3.out HB3.out.size hb)
    have HPN : Hid (Pend (w4.alloc (.cells (bookB (.slice none 0 0) (.slice none 0 0)) 48)) w4.heap.size 0 [] [] []) := Lib.hid (pend_new (blk_new w4 _))
    have HBB : Hid (Below w4.heap.size w4 (w4.alloc (.cells (bookB (.slice none 0 0) (.slice none 0 0)) 48))) := Lib.hid ((Below.refl _ _).alloc (Nat.le_refl _) _)
    obtain ⟨B, hB⟩ : ∃ B, w4.heap.size = B := ⟨_, rfl⟩
    rw [hB] at HPN HBB
    clear hwl hb HC HG HXA HFA HB3 HRB
    simp only
    go_wp2_with fail
    refine abs_world (S := fun wx => wx = w4.alloc (.cells (bookB (.slice none 0 0) (.slice none 0 0)) 48)) ?_ rfl
    rintro wy hwy
    rw [← hwy] at HPN HBB
    clear hwy
    go_loopw [17, 18, 19, 20, 21, 22, 23, 24, 25, 26, 27] (fun vk v18 v19 v20 v21 v22 v23 v24 v25 v26 v27 wr => ∃ (k : Nat), vk = .int .i64 k ∧ k ≤ 2 ∧ Hid (Pend wr B (3 * k) [] [] []) ∧ Hid (Below B w4 wr)) (fun vk _ _ _ _ _ _ _ _ _ _ _ => 2 - (intOf vk).toNat)
    case atStart => exact ⟨0, rfl, by omega, HPN, HBB⟩
    case round =>
      obtain ⟨k, rfl, hk, HP, HB⟩ := hrel
      have hbr : Below w4.heap.size w4 wr := by rw [hB]; exact HB.out
      have HC := Lib.hid (HC4.out.below hbr)
      have HG := Lib.hid (HG4.out.below hbr)
      have HWR := Lib.hid (belows_then HW4.out HW4.out.size hbr)
      have hBr : B < wr.heap.size := HP.out.lt
      clear hbr HBB HPN
      by_cases hlt : k < 2
      · have HM := Lib.hid (shMake_own HC.out HG.out (by omega) HV.out.good e p HPI.out HTT.out)
        go_wp2_with fail
        refine HM.out.mono ?_
        rintro en w6 hq
        obtain ⟨a1, c1, a2, c2, a3, c3, l1, l2, l3, rfl, hown, hap, hb6, hz0, hz1⟩ := shL_lists hq
        simp only at hz0 hz1
        have hbl := balT_len HV.out.good (by omega : J.length ≤ 100) e 0 p
        have hL : l1.length ≤ 800 ∧ l2.length ≤ 800 ∧ l3.length ≤ 800 := by
          by_cases h : DE = 0
          · obtain ⟨rfl, rfl, rfl⟩ := hz0 h
            have h1 := List.length_filter_le (pickB r [1]) (balT J e 0 p).1
            have h2 := List.length_filter_le (pickB r [2]) (balT J e 0 p).1
            have h3 := List.length_filter_le (pickB r [3]) (balT J e 0 p).1
            rw [List.length_map, List.length_map]
            exact ⟨by omega, by omega, by omega⟩
          · obtain ⟨rfl, rfl, rfl⟩ := hz1 h
            exact ⟨by simp, by simp, by simp⟩
        have HZ0 := Lib.hid hz0
        have HZ1 := Lib.hid hz1
        have HP6 : Hid (Pend w6 B (3 * k) [] [] [(.slice a1 l1.length c1, l1), (.slice a2 l2.length c2, l2), (.slice a3 l3.length c3, l3)]) := Lib.hid (HP.out.begin hb6 (fun q hq => by
          refine ⟨hown q hq, ?_⟩
          simp only [List.mem_cons, List.not_mem_nil, or_false] at hq
          rcases hq with rfl | rfl | rfl
          · exact hL.1
          · exact hL.2.1
          · exact hL.2.2) hap)
        have HP7 := Lib.hid (HP6.out.alloc (.cells #[.slice a1 l1.length c1, .slice a2 l2.length c2, .slice a3 l3.length c3, .int .i64 u1, .int .i64 u2, .int .i64 u3, .int .i64 u4, .int .i64 u5, .int .i64 u6] 75))
        have HS7 := Lib.hid (blk_new w6 (.cells #[.slice a1 l1.length c1, .slice a2 l2.length c2, .slice a3 l3.length c3, .int .i64 u1, .int .i64 u2, .int .i64 u3, .int .i64 u4, .int .i64 u5, .int .i64 u6] 75))
        have HB7 := Lib.hid ((HB.out.trans (hb6.mono (Nat.le_of_lt hBr))).alloc (Nat.le_trans (Nat.le_of_lt hBr) hb6.size) (.cells #[.slice a1 l1.length c1, .slice a2 l2.length c2, .slice a3 l3.length c3, .int .i64 u1, .int .i64 u2, .int .i64 u3, .int .i64 u4, .int .i64 u5, .int .i64 u6] 75))
        clear hq hown hap hb6 hz0 hz1 HP6 HM HC HG HWR HB HP hbl
        simp only
        go_wp2_with fail
        refine (keep_bal HP7.out (by simp; omega)).mono ?_
        rintro en w8 ⟨rfl, hbu, hp8, hfs⟩
        have HP8 := Lib.hid hp8
        have HS8 := Lib.hid ((hfs _ (List.mem_cons_self ..)).trans HS7.out)
        have HB8 := Lib.hid (But.toBelow HB7.out hbu (fun k h => h) (by have := HP7.out.lt; omega))
        have hs8 := blk_cells HS8.out
        have hl8 := blk_lt HS8.out
        clear hp8 hfs hbu HP7 HS7 HB7
        go_wp2_with fail
        refine (keep_bal HP8.out (by simp; omega)).mono ?_
        rintro en w9 ⟨rfl, hbu, hp9, hfs⟩
        have HP9 := Lib.hid hp9
        have HS9 := Lib.hid ((hfs _ (List.mem_cons_self ..)).trans HS8.out)
        have HB9 := Lib.hid (But.toBelow HB8.out hbu (fun k h => h) (by have := HP8.out.lt; omega))
        clear hs8 hl8
        have hs9 := blk_cells HS9.out
        have hl9 := blk_lt HS9.out
        clear hp9 hfs hbu HP8 HS8 HB8
        go_wp2_with fail
        refine (keep_bal HP9.out (by simp; omega)).mono ?_
        rintro en w10 ⟨rfl, hbu, hp10, hfs⟩
        have HP10 := Lib.hid hp10
        have HS10 := Lib.hid ((hfs _ (List.mem_cons_self ..)).trans HS9.out)
        have HB10 := Lib.hid (But.toBelow HB9.out hbu (fun k h => h) (by have := HP9.out.lt; omega))
        clear hs9 hl9
        have hs10 := blk_cells HS10.out
        have hl10 := blk_lt HS10.out
        clear hp10 hfs hbu HP9 HS9 HB9
        have HRD : Hid (OwnL tBal w10 (B + 1) (.slice a1 l1.length c1) l1 ∧ OwnL tBal w10 (B + 1) (.slice a2 l2.length c2) l2 ∧ OwnL tBal w10 (B + 1) (.slice a3 l3.length c3) l3) := Lib.hid ⟨HP10.out.read (p := (.slice a1 l1.length c1, l1)) (by simp), HP10.out.read (p := (.slice a2 l2.length c2, l2)) (by simp), HP10.out.read (p := (.slice a3 l3.length c3, l3)) (by simp)⟩
        have HPE : Hid (Pend w10 B (3 * (k + 1)) [] [] []) := Lib.hid (by have := HP10.out.again; simpa [Nat.mul_add] using this)
        have hbr : Below w4.heap.size w4 w10 := by rw [hB]; exact HB10.out
        have HXA := Lib.hid (Sl.keep (fun k hk _ => hbr.block k hk) HXA4.out)
        have HFA := Lib.hid (Sl.keep (fun k hk _ => hbr.block k hk) HFA4.out)
        have HWW := Lib.hid (Sl.keep (fun k hk _ => hbr.block k hk) HWL.out)
        clear hbr HP10
        have hcs : (DE != 0) = true ∧ DE ≠ 0 ∨ DE = 0 := by by_cases h : DE = 0 <;> simp [h]
        rcases hcs with ⟨hne, hne'⟩ | rfl
        · have h := HBAD.out hne'
          simp only [Prod.mk.injEq] at h
          obtain ⟨rfl, rfl, rfl, rfl, rfl, rfl⟩ := h
          obtain ⟨rfl, rfl, rfl⟩ := HZ1.out hne'
          clear HBAD HZ0 HZ1
          simp only [List.length_nil] at *
          go_wp2_with fail
          go_roundw
          case rel => exact ⟨k + 1, by go_num, by omega, HPE, HB10⟩
          case measure => simp [intOf]; omega
        · have hb0 : (balT J e 0 p).2 = 0 := HEZ.out (by first | trivial | rfl)
          obtain ⟨e1, e2, e3⟩ := HZ0.out (by first | trivial | rfl)
          have HRB := Lib.hid (r10Balances_all J fa fc e 0 p w10 HFA.out HV.out)
          have HFT : Hid (∀ x ∈ (balT J e 0 p).1, fitsB x.2 = true) := Lib.hid balT_fit
          have hll := balT_len HV.out.good (by omega : J.length ≤ 100) e 0 p
          obtain ⟨lst, ber, hbt⟩ : ∃ lst ber, balT J e 0 p = (lst, ber) := ⟨_, _, rfl⟩
          rw [hbt] at hb0 HRB HFT hll e1 e2 e3
          simp only at hb0 HFT hll e1 e2 e3
          subst hb0
          have E1 : Hid (l1 = pickS r lst 1 false) := Lib.hid (by rw [e1, pickS_f r _ 1 (by decide)])
          have E2 : Hid (l2 = pickS r lst 2 true) := Lib.hid (by rw [e2, pickS_t r _ 2 (by decide)])
          have E3 : Hid (l3 = pickS r lst 3 true) := Lib.hid (by rw [e3, pickS_t r _ 3 (by decide)])
          clear e1 e2 e3 hbt HZ0 HZ1 HBAD
          go_wp2_with fail
          refine HRB.out.mono ?_
          rintro en wa1 ⟨v, rfl, ho, hb⟩
          obtain ⟨ba, bc, rfl⟩ := ho.isSl
          have HBL : Hid (Sl tBal wa1 (fun _ => True) ba lst) := Lib.hid ho.slice'
          have HBa := Lib.hid hb
          clear ho hb HRB
          simp only
          go_wp2_with fail
          refine (r10Pick_any r xa xc lst ba bc 1 false wa1 (Sl.keep (fun k hk _ => HBa.out.block k hk) HXA.out) (by unfold maxLen; omega) HBL.out (by omega) HFT.out).mono ?_
          rintro en wb ⟨v, rfl, ho, hb⟩
          obtain ⟨p1, d1, rfl⟩ := ho.isSl
          have HO1 := Lib.hid ho.slice'
          have HBb := Lib.hid (belows_then HBa.out HBa.out.size hb)
          have HBL2 := Lib.hid (Sl.keep (fun k hk _ => hb.block k hk) HBL.out)
          clear ho hb HBa HBL
          go_wp2_with fail
          refine (r10Pick_any r xa xc lst ba bc 2 true wb (Sl.keep (fun k hk _ => HBb.out.block k hk) HXA.out) (by unfold maxLen; omega) HBL2.out (by omega) HFT.out).mono ?_
          rintro en wc1 ⟨v, rfl, ho, hb⟩
          obtain ⟨p2, d2, rfl⟩ := ho.isSl
          have HO2 := Lib.hid ho.slice'
          have HBc := Lib.hid (belows_then HBb.out HBb.out.size hb)
          have HBL3 := Lib.hid (Sl.keep (fun k hk _ => hb.block k hk) HBL2.out)
          have HO1c := Lib.hid (Sl.keep (fun k hk _ => hb.block k hk) HO1.out)
          clear ho hb HBb HBL2 HO1
          go_wp2_with fail
          refine (r10Pick_any r xa xc lst ba bc 3 true wc1 (Sl.keep (fun k hk _ => HBc.out.block k hk) HXA.out) (by unfold maxLen; omega) HBL3.out (by omega) HFT.out).mono ?_
          rintro en wd ⟨v, rfl, ho, hb⟩
          obtain ⟨p3, d3, rfl⟩ := ho.isSl
          have HO3 := Lib.hid ho.slice'
          have HBd := Lib.hid (belows_then HBc.out HBc.out.size hb)
          have HO1d := Lib.hid (Sl.keep (fun k hk _ => hb.block k hk) HO1c.out)
          have HO2d := Lib.hid (Sl.keep (fun k hk _ => hb.block k hk) HO2.out)
          clear ho hb HBc HBL3 HO1c HO2 HFT
          generalize pickS r lst 1 false = P1 at *
          generalize pickS r lst 2 true = P2 at *
          generalize pickS r lst 3 true = P3 at *
          have hp1 : P1.length ≤ 800 := by rw [← E1.out]; exact hL.1
          have hp2 : P2.length ≤ 800 := by rw [← E2.out]; exact hL.2.1
          have hp3 : P3.length ≤ 800 := by rw [← E3.out]; exact hL.2.2
          have hDL := HDT.out.2.1 (by first | trivial | rfl)
          have h6 : DL.length = 6 := by rw [hDL]; rfl
          have HDL := Lib.hid hDL
          clear hDL
          have hall := HALL.out (by first | trivial | rfl)
          have hhol := HHOL.out (by first | trivial | rfl)
          have HSB : Hid (sheetB u1 u2 u3 u4 u5 u6 = true) := Lib.hid (by unfold sheetB; rw [hall]; simp [hhol])
          have HI : Hid (∀ x ∈ [u1, u2, u3, u4, u5, u6], I64 x) := Lib.hid (fun x hx => i64_fit (by rw [List.all_eq_true] at hall; exact hall x hx))
          have HSd := Lib.hid (blk_below HS10.out HBd.out)
          have hsd := blk_cells HSd.out
          have hld := blk_lt HSd.out
          clear hall hhol HDT HALL HHOL HEZ hs10 hl10 HS10
          have HBA := Lib.hid (HBd.out.alloc HBd.out.size (.cells #[.int .i64 u1, .int .i64 u2, .int .i64 u3, .int .i64 u4, .int .i64 u5, .int .i64 u6] 3))
          have HSN : Hid (Sl tInt (wd.alloc (.cells #[.int .i64 u1, .int .i64 u2, .int .i64 u3, .int .i64 u4, .int .i64 u5, .int .i64 u6] 3)) (fun _ => True) (some ⟨wd.heap.size, 0, none⟩) DL) := Lib.hid (by rw [HDL.out]; exact sl_intsB _ (by have := blk_new wd (.cells #[.int .i64 u1, .int .i64 u2, .int .i64 u3, .int .i64 u4, .int .i64 u5, .int .i64 u6] 3); simpa using this) HI.out)
          have HSS : Hid (Calls Tryz.prog 28 #[.slice (some ⟨wd.heap.size, 0, none⟩) 6 6, .slice wa DL.length wc] (wd.alloc (.cells #[.int .i64 u1, .int .i64 u2, .int .i64 u3, .int .i64 u4, .int .i64 u5, .int .i64 u6] 3)) fun e w' => e = .returned (.bool true) ∧ Below (wd.alloc (.cells #[.int .i64 u1, .int .i64 u2, .int .i64 u3, .int .i64 u4, .int .i64 u5, .int .i64 u6] 3)).heap.size (wd.alloc (.cells #[.int .i64 u1, .int .i64 u2, .int .i64 u3, .int .i64 u4, .int .i64 u5, .int .i64 u6] 3)) w') := Lib.hid (by
            have hss := sbInts_is DL (some ⟨wd.heap.size, 0, none⟩) wa 6 wc (wd.alloc (.cells #[.int .i64 u1, .int .i64 u2, .int .i64 u3, .int .i64 u4, .int .i64 u5, .int .i64 u6] 3)) HSN.out (Sl.keep (fun k hk _ => HBA.out.block k hk) HWW.out) (by rw [h6]; decide)
            rw [h6] at hss ⊢
            exact hss)
          clear h6
          clear HSN
          go_wp2_with fail
          refine HSS.out.mono ?_
          rintro en we ⟨rfl, hb⟩
          have HBe := Lib.hid (belows_then HBA.out HBA.out.size hb)
          have HDe : Hid (Below wd.heap.size wd we) := Lib.hid (belows_then ((Below.refl wd.heap.size wd).alloc (Nat.le_refl _) _) (by simp) hb)
          have HSe := Lib.hid (blk_below HSd.out HDe.out)
          clear hb hsd hld HSd
          have hse := blk_cells HSe.out
          have hle := blk_lt HSe.out
          go_wp2_with fail
          have hi := HI.out
          refine (shHolds_any (.slice a1 l1.length c1) (.slice a2 l2.length c2) (.slice a3 l3.length c3) u1 u2 u3 u4 u5 u6 we rfl (hi _ (by simp)) (hi _ (by simp)) (hi _ (by simp)) (hi _ (by simp)) (hi _ (by simp)) (hi _ (by simp)) HSB.out).mono ?_
          clear hi
          rintro en wf ⟨rfl, hb⟩
          have HBf := Lib.hid (belows_then HBe.out HBe.out.size hb)
          have HSf := Lib.hid (blk_below HSe.out hb)
          have HDf := Lib.hid (belows_then HDe.out HDe.out.size hb)
          clear hb hse hle HSe
          have hsf := blk_cells HSf.out
          have hlf := blk_lt HSf.out
          go_wp2_with fail
          refine (sameBal_any l1 P1 a1 p1 c1 d1 wf (HRD.out.1.below HBf.out).slice' (Sl.keep (fun k hk _ => HDf.out.block k hk) HO1d.out) (by unfold maxLen; omega) (by unfold maxLen; omega) (r := true) (by simpa using E1.out)).mono ?_
          rintro en wg ⟨rfl, hb⟩
          have HBg := Lib.hid (belows_then HBf.out HBf.out.size hb)
          have HDg := Lib.hid (belows_then HDf.out HDf.out.size hb)
          have HSg := Lib.hid (blk_below HSf.out hb)
          clear hb hsf hlf HSf
          have hsg := blk_cells HSg.out
          have hlg := blk_lt HSg.out
          go_wp2_with fail
          refine (sameBal_any l2 P2 a2 p2 c2 d2 wg (HRD.out.2.1.below HBg.out).slice' (Sl.keep (fun k hk _ => HDg.out.block k hk) HO2d.out) (by unfold maxLen; omega) (by unfold maxLen; omega) (r := true) (by simpa using E2.out)).mono ?_
          rintro en wh ⟨rfl, hb⟩
          have HBh := Lib.hid (belows_then HBg.out HBg.out.size hb)
          have HDh := Lib.hid (belows_then HDg.out HDg.out.size hb)
          have HSh := Lib.hid (blk_below HSg.out hb)
          clear hb hsg hlg HSg
          have hsh := blk_cells HSh.out
          have hlh := blk_lt HSh.out
          go_wp2_with fail
          refine (sameBal_any l3 P3 a3 p3 c3 d3 wh (HRD.out.2.2.below HBh.out).slice' (Sl.keep (fun k hk _ => HDh.out.block k hk) HO3.out) (by unfold maxLen; omega) (by unfold maxLen; omega) (r := true) (by simpa using E3.out)).mono ?_
          rintro en wi ⟨rfl, hb⟩
          have HBi := Lib.hid (belows_then HBh.out HBh.out.size hb)
          have HPi := Lib.hid (HPE.out.below HBi.out)
          have HB4i := Lib.hid (HB10.out.trans (HBi.out.mono (by have := HPE.out.lt; omega)))
          clear hb hsh hlh
          go_wp2_with fail
          go_roundw
          case rel => exact ⟨k + 1, by go_num, by omega, HPi, HB4i⟩
          case measure => simp [intOf]; omega
      · obtain rfl : k = 2 := by omega
        go_wp2_with fail
        refine (shMake_nilc (.pointer (some ⟨g, 0, none⟩)) e p wr).mono ?_
        rintro en wa1 ⟨rfl, hb⟩
        have HBa := Lib.hid (hb.alloc hb.size (.cells #[.slice none 0 0, .slice none 0 0, .slice none 0 0, .int .i64 0, .int .i64 0, .int .i64 0, .int .i64 0, .int .i64 0, .int .i64 0] 75))
        clear hb
        go_wp2_with fail
        refine (shMake_nilb c e p _).mono ?_
        rintro en wb ⟨rfl, hb⟩
        have hbb := belows_then HBa.out HBa.out.size hb
        have HBb := Lib.hid (hbb.alloc hbb.size (.cells #[.slice none 0 0, .slice none 0 0, .slice none 0 0, .int .i64 0, .int .i64 0, .int .i64 0, .int .i64 0, .int .i64 0, .int .i64 0] 75))
        clear hb hbb
        have HPb := Lib.hid (HP.out.below HBb.out)
        go_wp2_with fail
        refine (kapart_pend HPb.out (by omega)).mono ?_
        rintro en wc1 ⟨rfl, hbu⟩
        have HBC := Lib.hid (But.toBelow (HB.out.trans (HBb.out.mono (Nat.le_of_lt hBr))) hbu (fun k h => h) (Nat.le_of_lt HPb.out.lt))
        clear hbu
        go_wp2_with fail
        go_ret
        exact ⟨rfl, HW4.out.trans (HBC.out.mono (by rw [← hB]; exact HW4.out.size))⟩

theorem sheetTells_row (a0 : Option Addr) (len0 cap0 : Nat) (x0 : List Ac) (a1 : Option Addr) (len1 cap1 : Nat) (x1 : List Jn) (e p : Int) (w : World) (y0 : tAcs.R w (fun _ => True) [.slice a0 len0 cap0] x0) (y1 : tJns.R w (fun _ => True) [.slice a1 len1 cap1] x1) (he : I64 e) (hp : I64 p) :
    Calls Tryz.prog 5 #[.slice a0 len0 cap0, .slice a1 len1 cap1, .int .i64 e, .int .i64 p] w fun en w' => en = .returned (.bool true) ∧ Below w.heap.size w w' := by
  obtain ⟨a, cap, hv, hs, h1, h2, _⟩ := y0
  obtain ⟨b, cap', hv', hs', h1', h2', _⟩ := y1
  simp only [List.cons.injEq, Value.slice.injEq, and_true] at hv hv'
  obtain ⟨rfl, rfl, rfl⟩ := hv
  obtain ⟨rfl, rfl, rfl⟩ := hv'
  exact sheetTells_any x0 a0 cap0 x1 a1 cap1 e p hp w hs (Nat.le_trans h1 h2) hs' (Nat.le_trans h1' h2')
end Go.Proofs.YtfnmlpnncjhnmaaGreat
