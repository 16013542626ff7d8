/- IncomeTells: what was earned, spent, and is left, or the error; lists kept. -/
import Derived.Test.YtfnmlpnncjhnmaaGreatX31IncomeTells
import Derived.Test.YtfnmlpnncjhnmaaGreatX36IncomeTells
import Derived.Test.YtfnmlpnncjhnmaaGreatX42IncomeTells
set_option linter.unusedVariables false
set_option linter.unusedSimpArgs false
namespace Go.Proofs.YtfnmlpnncjhnmaaGreat
open Go.RowKit Go.Maps Go.Deep

theorem incQ_lists {w w' : World} {r : List Ac} {J : List Jn} {e f t : Int} {u : (Int × Int × Int) × Int} {en : Ending} (h : IncQ w r J e f t u en w') : ∃ p1 q1 p2 q2 l1 l2, en = .returned (.tuple #[.agg #[.slice p1 (List.length l1) q1, .slice p2 (List.length l2) q2, .int .i64 u.1.1, .int .i64 u.1.2.1, .int .i64 u.1.2.2], .int .i64 u.2]) ∧
    OwnL tBal w' w.heap.size (.slice p1 l1.length q1) l1 ∧ OwnL tBal w' w.heap.size (.slice p2 l2.length q2) l2 ∧ ApartV (.slice p1 l1.length q1) (.slice p2 l2.length q2) ∧ Below w.heap.size w w' ∧ (u.2 = 0 → l1 = incI r (balT J e f t).1 ∧ l2 = incO r (balT J e f t).1) ∧ (u.2 ≠ 0 → l1 = [] ∧ l2 = []) := by
  obtain ⟨v1, v2, rfl, h0, h1, hb⟩ := h
  by_cases h : u.2 = 0
  · obtain ⟨g1, g2, g3⟩ := h0 h
    obtain ⟨a1, c1, rfl⟩ := g1.isSl
    obtain ⟨a2, c2, rfl⟩ := g2.isSl
    exact ⟨a1, c1, a2, c2, _, _, rfl, g1, g2, g3, hb, fun _ => ⟨rfl, rfl⟩, fun h' => absurd h h'⟩
  · obtain ⟨rfl, rfl⟩ := h1 h
    exact ⟨none, 0, none, 0, [], [], rfl, OwnL.nil _ _, OwnL.nil _ _, .inl rfl, hb, fun h' => absurd h' h, fun _ => ⟨rfl, rfl⟩⟩
theorem incI_len (r : List Ac) (l : List (Int × Int)) : (incI r l).length ≤ l.length := by
  unfold incI
  rw [List.length_map]
  exact List.length_filter_le _ _
theorem incO_len (r : List Ac) (l : List (Int × Int)) : (incO r l).length ≤ l.length := List.length_filter_le _ _

theorem inc_all {r : List Ac} {J : List Jn} {e f t : Int} {lst : List (Int × Int)} {ber : Int} (h : balT J e f t = (lst, ber)) : incM r J e f t = if ber != 0 then ((0, 0, 0), ber) else if netF r lst then ((netA r lst, netB r lst, netA r lst - netB r lst), 0) else ((0, 0, 0), 2) := by
  have hf : ∀ x ∈ lst, fitsB x.2 = true := by have := balT_fit (J := J) (e := e) (f := f) (t := t); rw [h] at this; exact this
  rw [incM_is h, net_more hf]
theorem pair_two {x y : Value × List (Int × Int)} (h : ApartV x.1 y.1) : [x, y].Pairwise (fun p q => ApartV p.1 q.1) :=
  List.pairwise_cons.2 ⟨fun q hq => by rw [List.mem_singleton.1 hq]; exact h, List.pairwise_singleton _ _⟩

set_option maxHeartbeats 16000000 in
set_option maxRecDepth 100000 in
theorem incomeTells_any (rows : List Ac) (ra : Option Addr) (rc : Nat) (l : List Jn) (la : Option Addr) (lc : Nat) (e f t : Int) (hfi : I64 f) (hti : I64 t) (w : World) {F G : Nat → Prop} (hs : Sl tAc w F ra rows) (hl : rows.length ≤ maxLen) (ht : Sl tJn w G la l) (hm : l.length ≤ maxLen) :
    Calls Tryz.prog 4 #[.slice ra rows.length rc, .slice la l.length lc, .int .i64 e, .int .i64 f, .int .i64 t] w fun en w' => en = .returned (.bool true) ∧ Below w.heap.size w w' := by
  have HS := Lib.hid hs
  have HT := Lib.hid ht
  have HFI := Lib.hid hfi
  have HTI := Lib.hid hti
  clear hs ht hfi hti
  go_enter Tryz.func4, Tryz.ntmps4
  go_wp2_with fail
  refine (few_any l la lc 40 _ HT.out hm (by omega)).mono ?_
  rintro en w1 ⟨b, rfl, _, hb⟩
  have HB1 := Lib.hid hb
  clear hb
  cases b
  · go_wp2_with fail
    refine (alive11 w1).mono ?_
    rintro en w2 ⟨rfl, hb⟩
    have HB2 := Lib.hid (belows_then HB1.out HB1.out.size hb)
    clear hb
    go_wp2_with fail
    go_ret
    exact ⟨rfl, HB2.out⟩
  · go_wp2_with fail
    refine (alive11 w1).mono ?_
    rintro en w2 ⟨rfl, hb⟩
    have HB2 := Lib.hid (belows_then HB1.out HB1.out.size hb)
    clear hb HB1
    go_wp2_with fail
    refine (set_any rows ra rc l la lc w2 (Sl.keep (fun k hk _ => HB2.out.block k hk) HS.out) hl (Sl.keep (fun k hk _ => HB2.out.block k hk) HT.out) hm).mono ?_
    rintro en w3 ⟨c, g, xa, fa, ga, xc, fc, gc, mb, rfl, hc, hg, hxa, hfa, hb⟩
    have HB3 := Lib.hid (belows_then HB2.out HB2.out.size hb)
    have HV := Lib.hid (fit_val 40 l)
    have hJl : (fitJ 40 l).length ≤ 40 := fitJ_len 40 l [] (by simp)
    have hrl : (setR rows).length ≤ 30 := by
      have := setFold_len (rows.take 30) []
      rw [List.length_take] at this
      simp only [List.length_nil] at this
      unfold setR
      omega
    generalize fitJ 40 l = J at *
    generalize setR rows = r at *
    have HBA := Lib.hid ((Below.refl w3.heap.size w3).alloc (Nat.le_refl _) (.cells #[.int .i64 e, .int .i64 f, .int .i64 t] 31))
    have HC := Lib.hid (hc.below HBA.out)
    have HG := Lib.hid (hg.below HBA.out)
    have HXA := Lib.hid (Sl.keep (fun k hk _ => HBA.out.block k hk) hxa)
    have HFA := Lib.hid (Sl.keep (fun k hk _ => HBA.out.block k hk) hfa)
    have HZA := Lib.hid (blk_new w3 (.cells #[.int .i64 e, .int .i64 f, .int .i64 t] 31))
    have HB4 := Lib.hid (belows_then HB3.out HB3.out.size HBA.out)
    have HRB := Lib.hid (r10Balances_all J fa fc e f t (w3.alloc (.cells #[.int .i64 e, .int .i64 f, .int .i64 t] 31)) HFA.out HV.out)
    obtain ⟨lst, ber, hbt⟩ : ∃ lst ber, balT J e f t = (lst, ber) := ⟨_, _, rfl⟩
    have HBT := Lib.hid hbt
    have HFT : Hid (∀ x ∈ lst, fitsB x.2 = true) := Lib.hid (by have := balT_fit (J := J) (e := e) (f := f) (t := t); rw [hbt] at this; exact this)
    have hll : lst.length ≤ 800 := by have := balT_len HV.out.good (by omega) e f t; rw [hbt] at this; exact this
    have HBE : Hid (ber = 0 ∨ ber = 1 ∨ ber = 2) := Lib.hid (by have := balT_err J e f t; rw [hbt] at this; exact this)
    rw [hbt] at HRB
    clear hc hg hxa hfa hb HB2 HS HT HB3 hbt
    go_wp2_with fail
    refine HRB.out.mono ?_
    rintro en w4 ⟨v, rfl, ho, hb⟩
    obtain ⟨ba, bc, rfl⟩ := ho.isSl
    have HBAL : Hid (Sl tBal w4 (fun _ => True) ba lst) := Lib.hid ho.slice'
    have HC4 := Lib.hid (HC.out.below hb)
    have HG4 := Lib.hid (HG.out.below hb)
    have HXA4 := Lib.hid (Sl.keep (fun k hk _ => hb.block k hk) HXA.out)
    have HZ4 := Lib.hid (blk_below HZA.out hb)
    have HW4 := Lib.hid (belows_then HB4.out HB4.out.size hb)
    have HPN : Hid (Pend (w4.alloc (.cells (bookB (.slice none 0 0) (.slice none 0 0)) 48)) w4.heap.size 0 [] [] []) := Lib.hid (pend_new (blk_new w4 _))
    have HBB : Hid (Below w4.heap.size w4 (w4.alloc (.cells (bookB (.slice none 0 0) (.slice none 0 0)) 48))) := Lib.hid ((Below.refl _ _).alloc (Nat.le_refl _) _)
    have hzl := blk_lt HZ4.out
    obtain ⟨B, hB⟩ : ∃ B, w4.heap.size = B := ⟨_, rfl⟩
    rw [hB] at HPN HBB
    clear ho hb HC HG HXA HFA HZA HBA HB4 HRB
    simp only
    go_wp2_with fail
    refine abs_world (S := fun wx => wx = w4.alloc (.cells (bookB (.slice none 0 0) (.slice none 0 0)) 48)) ?_ rfl
    rintro wy hwy
    rw [← hwy] at HPN HBB
    clear hwy
    go_loopw [20, 21, 22, 23, 24, 25, 26, 27, 28, 29] (fun vk v21 v22 v23 v24 v25 v26 v27 v28 v29 wr => ∃ (k : Nat), vk = .int .i64 k ∧ k ≤ 2 ∧ Hid (Pend wr B (2 * k) [] [] []) ∧ Hid (Below B w4 wr)) (fun vk _ _ _ _ _ _ _ _ _ _ => 2 - (intOf vk).toNat)
    case atStart => exact ⟨0, rfl, by omega, HPN, HBB⟩
    case round =>
      obtain ⟨k, rfl, hk, HP, HB⟩ := hrel
      have hbr : Below w4.heap.size w4 wr := by rw [hB]; exact HB.out
      have HC := Lib.hid (HC4.out.below hbr)
      have HG := Lib.hid (HG4.out.below hbr)
      have HXA := Lib.hid (Sl.keep (fun k hk _ => hbr.block k hk) HXA4.out)
      have HZ := Lib.hid (blk_below HZ4.out hbr)
      have HBL := Lib.hid (Sl.keep (fun k hk _ => hbr.block k hk) HBAL.out)
      have HWR := Lib.hid (belows_then HW4.out HW4.out.size hbr)
      have hz := blk_cells HZ.out
      have hzlr := blk_lt HZ.out
      have hBr : B < wr.heap.size := HP.out.lt
      clear hbr HBB HPN
      by_cases hlt : k < 2
      · obtain ⟨u, hu⟩ : ∃ u, incM r J e f t = u := ⟨_, rfl⟩
        have HM := Lib.hid (iMake_any HC.out HG.out (by omega) HV.out.good e f t HFI.out HTI.out hu)
        have HUA := Lib.hid (inc_all (r := r) HBT.out)
        rw [hu] at HUA
        obtain ⟨⟨u1, u2, u3⟩, uer⟩ := u
        clear hu
        go_wp2_with fail
        refine HM.out.mono ?_
        rintro en w6 hq
        obtain ⟨p1, q1, p2, q2, l1, l2, rfl, ho1, ho2, hap, hb6, hz0, hz1⟩ := incQ_lists hq
        simp only at hz0 hz1
        have hL : l1.length ≤ 800 ∧ l2.length ≤ 800 := by
          by_cases h : uer = 0
          · obtain ⟨rfl, rfl⟩ := hz0 h
            have h1 := incI_len r (balT J e f t).1
            have h2 := incO_len r (balT J e f t).1
            rw [HBT.out] at h1 h2 ⊢
            simp only at h1 h2 ⊢
            exact ⟨by omega, by omega⟩
          · obtain ⟨rfl, rfl⟩ := hz1 h
            exact ⟨by simp, by simp⟩
        have HZ0 : Hid (uer = 0 → l1 = incI r lst ∧ l2 = incO r lst) := Lib.hid (by rw [HBT.out] at hz0; exact hz0)
        have HZ1 := Lib.hid hz1
        have HP6 : Hid (Pend w6 B (2 * k) [] [] [(.slice p1 l1.length q1, l1), (.slice p2 l2.length q2, l2)]) := Lib.hid (HP.out.begin hb6 (fun p hp => by
          simp only [List.mem_cons, List.not_mem_nil, or_false] at hp
          rcases hp with rfl | rfl
          · exact ⟨ho1, hL.1⟩
          · exact ⟨ho2, hL.2⟩) (pair_two hap))
        have HP7 := Lib.hid (HP6.out.alloc (.cells #[.slice p1 l1.length q1, .slice p2 l2.length q2, .int .i64 u1, .int .i64 u2, .int .i64 u3] 62))
        have HS7 := Lib.hid (blk_new w6 (.cells #[.slice p1 l1.length q1, .slice p2 l2.length q2, .int .i64 u1, .int .i64 u2, .int .i64 u3] 62))
        have HB7 := Lib.hid ((HB.out.trans (hb6.mono (Nat.le_of_lt hBr))).alloc (Nat.le_trans (Nat.le_of_lt hBr) hb6.size) (.cells #[.slice p1 l1.length q1, .slice p2 l2.length q2, .int .i64 u1, .int .i64 u2, .int .i64 u3] 62))
        clear hq ho1 ho2 hap hb6 hz0 hz1 HP6 HM HC HG HXA HZ HBL HWR hz hzlr HB HP
        simp only
        go_wp2_with fail
        refine (keep_bal HP7.out (by simp; omega)).mono ?_
        rintro en w8 ⟨rfl, hbu, hp8, hfs⟩
        have HP8 := Lib.hid hp8
        have HS8 := Lib.hid ((hfs _ (List.mem_cons_self ..)).trans HS7.out)
        have HB8 := Lib.hid (But.toBelow HB7.out hbu (fun k h => h) (by have := HP7.out.lt; omega))
        have hs8 := blk_cells HS8.out
        have hl8 := blk_lt HS8.out
        clear hp8 hfs hbu HP7 HS7 HB7
        go_wp2_with fail
        refine (keep_bal HP8.out (by simp; omega)).mono ?_
        rintro en w9 ⟨rfl, hbu, hp9, hfs⟩
        have HP9 := Lib.hid hp9
        have HS9 := Lib.hid ((hfs _ (List.mem_cons_self ..)).trans HS8.out)
        have HB9 := Lib.hid (But.toBelow HB8.out hbu (fun k h => h) (by have := HP8.out.lt; omega))
        clear hs8 hl8
        have hs9 := blk_cells HS9.out
        have hl9 := blk_lt HS9.out
        clear hp9 hfs hbu HP8 HS8 HB8
        have HRD : Hid (OwnL tBal w9 (B + 1) (.slice p1 l1.length q1) l1 ∧ OwnL tBal w9 (B + 1) (.slice p2 l2.length q2) l2) := Lib.hid ⟨HP9.out.read (p := (.slice p1 l1.length q1, l1)) (by simp), HP9.out.read (p := (.slice p2 l2.length q2, l2)) (by simp)⟩
        have HPE : Hid (Pend w9 B (2 * (k + 1)) [] [] []) := Lib.hid (by have := HP9.out.again; simpa [Nat.mul_add] using this)
        have hbr : Below w4.heap.size w4 w9 := by rw [hB]; exact HB9.out
        have HXA := Lib.hid (Sl.keep (fun k hk _ => hbr.block k hk) HXA4.out)
        have HBL := Lib.hid (Sl.keep (fun k hk _ => hbr.block k hk) HBAL.out)
        have HWR := Lib.hid (belows_then HW4.out HW4.out.size hbr)
        clear hbr HP9
        have hcs : (ber != 0) = true ∧ ber ≠ 0 ∨ ber = 0 := by by_cases h : ber = 0 <;> simp [h]
        rcases hcs with ⟨hne, hne'⟩ | rfl
        · have h := HUA.out
          rw [if_pos hne] at h
          obtain ⟨h1, h2⟩ := Prod.mk.inj h
          obtain ⟨h3, h4⟩ := Prod.mk.inj h1
          obtain ⟨h5, h6⟩ := Prod.mk.inj h4
          subst h2 h3 h5 h6
          obtain ⟨rfl, rfl⟩ := HZ1.out hne'
          clear h h1 h4 HUA HZ0 HZ1
          simp only [List.length_nil] at *
          go_wp2_with fail
          go_roundw
          case rel => exact ⟨k + 1, by go_num, by omega, HPE, HB9⟩
          case measure => simp [intOf]; omega
        · have hua := HUA.out
          simp only [bne_self_eq_false, Bool.false_eq_true, if_false] at hua
          have HNF := Lib.hid hua
          clear hua HUA
          go_wp2_with fail
          refine (r10Pick_any r xa xc lst ba bc 4 true w9 HXA.out (by unfold maxLen; omega) HBL.out (by omega) HFT.out).mono ?_
          rintro en wa ⟨va, rfl, hoa, hb⟩
          have HBa := Lib.hid hb
          obtain ⟨aa, ca, rfl⟩ := hoa.isSl
          have HOa := Lib.hid hoa
          clear hb hoa
          go_wp2_with fail
          refine (r10Pick_any r xa xc lst ba bc 5 false wa (Sl.keep (fun k hk _ => HBa.out.block k (by first | exact hk | omega)) HXA.out) (by unfold maxLen; omega) (Sl.keep (fun k hk _ => HBa.out.block k hk) HBL.out) (by omega) HFT.out).mono ?_
          rintro en wb ⟨vb, rfl, hob, hb⟩
          have HBb := Lib.hid (belows_then HBa.out HBa.out.size hb)
          have HOa2 := Lib.hid (HOa.out.below hb)
          obtain ⟨ab, cb, rfl⟩ := hob.isSl
          have HOb := Lib.hid hob
          clear hb hob HOa
          go_wp2_with fail
          refine (r10Net_any r xa xc lst ba bc wb (Sl.keep (fun k hk _ => HBb.out.block k hk) HXA.out) (by unfold maxLen; omega) (Sl.keep (fun k hk _ => HBb.out.block k hk) HBL.out) (by omega) HFT.out).mono ?_
          rintro en wc ⟨rfl, hb⟩
          have HBc := Lib.hid (belows_then HBb.out HBb.out.size hb)
          have HOa3 := Lib.hid (HOa2.out.below hb)
          have HOb3 := Lib.hid (HOb.out.below hb)
          have HSc := Lib.hid (blk_below HS9.out HBc.out)
          have hsc := blk_cells HSc.out
          have hlc := blk_lt HSc.out
          have HPc := Lib.hid (HPE.out.below HBc.out)
          have HB4c := Lib.hid (HB9.out.trans (HBc.out.mono (by have := HPE.out.lt; omega)))
          have HRc : Hid (OwnL tBal wc (B + 1) (.slice p1 l1.length q1) l1 ∧ OwnL tBal wc (B + 1) (.slice p2 l2.length q2) l2) := Lib.hid ⟨HRD.out.1.below HBc.out, HRD.out.2.below HBc.out⟩
          clear hb HBa HBb hs9 hl9 HS9 HPE HB9 HRD HXA HBL HOa2 HOb HWR
          have hba := pickS_bd r 4 true lst HFT.out
          have hbb := pickS_bd r 5 false lst HFT.out
          change _ ≤ netA r lst ∧ netA r lst ≤ _ at hba
          change _ ≤ netB r lst ∧ netB r lst ≤ _ at hbb
          have hsa : sumI ((pickS r lst 4 true).map (·.2)) = netA r lst := rfl
          have hsb : sumI ((pickS r lst 5 false).map (·.2)) = netB r lst := rfl
          rw [hsa, hsb]
          clear hsa hsb
          have hcf : netF r lst = false ∨ netF r lst = true := by cases netF r lst <;> simp
          rcases hcf with hf | hf
          · have h := HNF.out
            rw [hf] at h
            simp only [Bool.false_eq_true, if_false] at h
            obtain ⟨h1, h2⟩ := Prod.mk.inj h
            obtain ⟨h3, h4⟩ := Prod.mk.inj h1
            obtain ⟨h5, h6⟩ := Prod.mk.inj h4
            subst h2 h3 h5 h6
            obtain ⟨rfl, rfl⟩ := HZ1.out (by decide)
            rw [hf]
            clear h h1 h4 HNF HZ0 HZ1 hf
            generalize netA r lst = A at *
            generalize netB r lst = B' at *
            simp only [List.length_nil] at *
            go_wp2_with fail
            go_roundw
            case rel => exact ⟨k + 1, by go_num, by omega, HPc, HB4c⟩
            case measure => simp [intOf]; omega
          · have h := HNF.out
            rw [hf] at h
            simp only [if_true] at h
            obtain ⟨h1, h2⟩ := Prod.mk.inj h
            obtain ⟨h3, h4⟩ := Prod.mk.inj h1
            obtain ⟨h5, h6⟩ := Prod.mk.inj h4
            obtain ⟨hl1, hl2⟩ := HZ0.out h2
            have HE1 : Hid (l1 = pickS r lst 4 true) := Lib.hid (by rw [hl1, incI_is])
            have HE2 : Hid (l2 = pickS r lst 5 false) := Lib.hid (by rw [hl2, incO_is])
            rw [hf]
            clear hl1 hl2 h h1 h4 HNF HZ0 HZ1 hf
            generalize pickS r lst 4 true = P1 at *
            generalize pickS r lst 5 false = P2 at *
            generalize netA r lst = A at *
            generalize netB r lst = B' at *
            subst h2 h3 h5 h6
            have hwd : IntKind.i64.wrap (u1 - u2) = u1 - u2 := wrap_is (by omega) (by omega)
            have hp1 : P1.length ≤ 800 := by rw [← HE1.out]; exact hL.1
            have hp2 : P2.length ≤ 800 := by rw [← HE2.out]; exact hL.2
            go_wp2_with fail
            refine (sameBal_any l1 P1 p1 aa q1 ca wc HRc.out.1.slice' HOa3.out.slice' (by unfold maxLen; omega) (by unfold maxLen; omega) (r := true) (by simpa using HE1.out)).mono ?_
            rintro en wd ⟨rfl, hb⟩
            have HBd := Lib.hid hb
            have HOb4 := Lib.hid (HOb3.out.below hb)
            have HRd := Lib.hid (HRc.out.2.below hb)
            have hsd := blk_cells (blk_below HSc.out hb)
            have hld := blk_lt (blk_below HSc.out hb)
            clear hb hsc hlc
            go_wp2_with fail
            refine (sameBal_any l2 P2 p2 ab q2 cb wd HRd.out.slice' HOb4.out.slice' (by unfold maxLen; omega) (by unfold maxLen; omega) (r := true) (by simpa using HE2.out)).mono ?_
            rintro en we ⟨rfl, hb⟩
            have HBe := Lib.hid (belows_then HBd.out HBd.out.size hb)
            have HPe := Lib.hid (HPc.out.below HBe.out)
            have HB4e := Lib.hid (HB4c.out.trans (HBe.out.mono (by have := HPc.out.lt; omega)))
            clear hb hsd hld
            go_wp2_with fail
            go_roundw
            case rel => exact ⟨k + 1, by go_num, by omega, HPe, HB4e⟩
            case measure => simp [intOf]; omega
      · obtain rfl : k = 2 := by omega
        go_wp2_with fail
        refine (iMake_nil (.pointer (some ⟨g, 0, none⟩)) e f t wr).mono ?_
        rintro en wa ⟨rfl, hb⟩
        have HBa := Lib.hid (hb.alloc hb.size (.cells #[.slice none 0 0, .slice none 0 0, .int .i64 0, .int .i64 0, .int .i64 0] 62))
        clear hb hz hzlr
        go_wp2_with fail
        refine (iOf_nil (.slice ba lst.length bc) _).mono ?_
        rintro en wb ⟨rfl, hb⟩
        have hbb := belows_then HBa.out HBa.out.size hb
        have HBb := Lib.hid (hbb.alloc hbb.size (.cells #[.slice none 0 0, .slice none 0 0, .int .i64 0, .int .i64 0, .int .i64 0] 62))
        clear hb hbb
        have HPb := Lib.hid (HP.out.below HBb.out)
        go_wp2_with fail
        refine (kapart_pend HPb.out (by omega)).mono ?_
        rintro en wc ⟨rfl, hbu⟩
        have HBC := Lib.hid (But.toBelow (HB.out.trans (HBb.out.mono (Nat.le_of_lt hBr))) hbu (fun k h => h) (Nat.le_of_lt HPb.out.lt))
        clear hbu
        go_wp2_with fail
        go_ret
        exact ⟨rfl, HW4.out.trans (HBC.out.mono (by rw [← hB]; exact HW4.out.size))⟩

theorem incomeTells_row (a0 : Option Addr) (len0 cap0 : Nat) (x0 : List Ac) (a1 : Option Addr) (len1 cap1 : Nat) (x1 : List Jn) (e f n : Int) (w : World) (y0 : tAcs.R w (fun _ => True) [.slice a0 len0 cap0] x0) (y1 : tJns.R w (fun _ => True) [.slice a1 len1 cap1] x1) (he : I64 e) (hf : I64 f) (hn : I64 n) :
    Calls Tryz.prog 4 #[.slice a0 len0 cap0, .slice a1 len1 cap1, .int .i64 e, .int .i64 f, .int .i64 n] w fun en w' => en = .returned (.bool true) ∧ Below w.heap.size w w' := by
  obtain ⟨a, cap, hv, hs, h1, h2, _⟩ := y0
  obtain ⟨b, cap', hv', hs', h1', h2', _⟩ := y1
  simp only [List.cons.injEq, Value.slice.injEq, and_true] at hv hv'
  obtain ⟨rfl, rfl, rfl⟩ := hv
  obtain ⟨rfl, rfl, rfl⟩ := hv'
  exact incomeTells_any x0 a0 cap0 x1 a1 cap1 e f n hf hn w hs (Nat.le_trans h1 h2) hs' (Nat.le_trans h1' h2')
end Go.Proofs.YtfnmlpnncjhnmaaGreat
