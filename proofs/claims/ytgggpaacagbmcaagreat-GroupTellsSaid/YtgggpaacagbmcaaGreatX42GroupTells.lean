/- The document's group. -/
import Derived.Test.YtgggpaacagbmcaaGreatX41GroupTells
import Derived.Deep.RegionHeld3
import Derived.StillTail
set_option linter.unusedVariables false
set_option linter.unusedSimpArgs false
namespace Go.Proofs.YtgggpaacagbmcaaGreat
open Go.RowKit Go.Maps Go.Deep

theorem docX_bd {r : List Ac} {ms : List Mb} {J : List Jn} (hV : ValJ J) (hl : J.length ≤ 100) (h9 : ms.length ≤ 9) {p : Int} (n : Nat) (hn : n ≤ ms.length) : (docX (prt r ms J p n)).length ≤ 800 * n := by
  have := docX_len (PS := prt r ms J p n) (fun q hq => by obtain ⟨m, _, rfl⟩ := List.mem_map.1 hq; exact memP_len hV hl ms p m r)
  have h2 : (prt r ms J p n).length = n := by unfold prt; rw [List.length_map, List.length_take]; omega
  rwa [h2] at this
theorem sum_bd9 {l : List Int} (h : l.all fitsB = true) (hl : l.length ≤ 9) : -9000000000000000 ≤ sumI l ∧ sumI l ≤ 9000000000000000 := by
  have := sumI_bdF l h
  omega
/-- what stands in the way of the document's group -/
theorem docT_no {r : List Ac} {ms : List Mb} {J : List Jn} {p : Int} {n : Nat} (hn : n < ms.length) (h : memE r ms J p ms[n] ≠ 0) : docT r ms J p = (grp0, false) := by
  have : ms.all (fun m => memE r ms J p m == 0) = false := by
    rw [List.all_eq_false]
    exact ⟨_, List.getElem_mem hn, by simpa using h⟩
  unfold docT
  rw [this]
  rfl

theorem linesOf_len8 {J : List Jn} (hV : ValJ J) (hl : J.length ≤ 100) (e p : Int) : (linesOf J e 0 p).length ≤ 800 := by
  unfold linesOf
  have z1 := flat8 (l := J.filter (cnt e 0 p)) (fun x hx => hV.good x (List.mem_filter.1 hx).1)
  have z2 := List.length_filter_le (cnt e 0 p) J
  omega

set_option maxHeartbeats 16000000 in
set_option maxRecDepth 100000 in
theorem r10Group_any {r : List Ac} (hr : GoodA r) (ra : Option Addr) (rc : Nat) (hrl : r.length ≤ 1000) {J : List Jn} (hV : ValJ J) (hJl : J.length ≤ 100) (ja : Option Addr) (jc : Nat) (p : Int) (ms : List Mb) (ma : Option Addr) (mc : Nat) (hg : grpB ms = true) (w : World) {F G H : Nat → Prop} (hra : Sl tAc w F ra r) (hja : Sl tJn w G ja J) (hms : Sl tRm w H ma ms) :
    Calls Tryz.prog 15 #[.slice ra r.length rc, .slice ja J.length jc, .int .i64 p, .slice ma ms.length mc] w fun en w' => ∃ v, en = .returned (.tuple #[grV v (docT r ms J p).1, .bool (docT r ms J p).2]) ∧ OwnL tBal w' w.heap.size v (docT r ms J p).1.bal ∧ Below w.heap.size w w' := by
  obtain ⟨D, hD⟩ : ∃ D, docT r ms J p = D := ⟨_, rfl⟩
  rw [hD]
  have HD := Lib.hid hD
  have HGA := Lib.hid hr
  have HV := Lib.hid hV
  have HG := Lib.hid hg
  have HRA := Lib.hid hra
  have HJA := Lib.hid hja
  have HMS := Lib.hid hms
  have hm9 := grpB_len hg
  have hml : ms.length ≤ 9223372036854775807 := by omega
  have HN0 := Lib.hid (DSt.new w)
  clear hD hr hV hg hra hja hms
  go_enter Tryz.func15, Tryz.ntmps15
  go_wp2_with fail
  refine abs_world (S := fun wx => DSt w wx (.slice none 0 0) [] 0 0 0 0 0 0) ?_ HN0.out
  clear HN0
  rintro wx hdx
  have HDX := Lib.hid hdx
  clear hdx
  go_loopw [11, 12, 13, 14, 15, 16, 17, 18, 19, 20, 21, 22, 23, 24, 25, 26, 27, 28] (fun vi v12 v13 v14 v15 v16 v17 v18 v19 v20 v21 v22 v23 v24 v25 v26 v27 v28 wr => ∃ (n : Nat) (v : Value), n ≤ ms.length ∧ vi = .int .i64 n ∧ DSt w wr v (refP (docX (prt r ms J p n))) (sumI ((prt r ms J p n).map (·.plug))) (sumI ((prt r ms J p n).map (·.out))) (sumI ((prt r ms J p n).map (·.oth))) (qSum (kB r [1]) (docX (prt r ms J p n))) (-qSum (kB r [2]) (docX (prt r ms J p n))) 0 ∧ Hid ((ms.take n).all (fun m => memE r ms J p m == 0) = true)) (fun vi _ _ _ _ _ _ _ _ _ _ _ _ _ _ _ _ _ _ => ms.length - (intOf vi).toNat)
  case atStart => exact ⟨0, _, Nat.zero_le _, rfl, HDX.out, Lib.hid rfl⟩
  case round =>
    obtain ⟨n, v, hn, rfl, hd, hz⟩ := hrel
    have HDR := Lib.hid hd
    clear hd HDX
    by_cases hlt : n < ms.length
    · skip
      obtain ⟨ad, rfl, _, hadl, hc0, hc1, hc2, hc3, hc4, hwf⟩ := rm_at (Sl.keep (fun k hk _ => HDR.out.bel.block k hk) HMS.out) n hlt
      obtain ⟨g1, g2, g3⟩ := grpB_mem HG.out (List.getElem_mem hlt)
      have HPS := Lib.hid (prt_succ r ms J p n hlt)
      have HNO := Lib.hid (fun h => docT_no (r := r) (J := J) (p := p) hlt h)
      have HAS := Lib.hid (all_take_succ (fun m => memE r ms J p m == 0) ms n hlt)
      have HXB := Lib.hid (docX_bd (r := r) HV.out hJl hm9 (p := p) n hn)
      have HXF := Lib.hid (docX_fit (prt_ok r ms J p n))
      have b1 := sum_bd9 (all_mapF (f := (·.plug)) fun q hq => (prt_ok r ms J p n q hq).plug) (by unfold prt; rw [List.length_map, List.length_map, List.length_take]; omega)
      have b2 := sum_bd9 (all_mapF (f := (·.out)) fun q hq => (prt_ok r ms J p n q hq).out) (by unfold prt; rw [List.length_map, List.length_map, List.length_take]; omega)
      have b3 := sum_bd9 (all_mapF (f := (·.oth)) fun q hq => (prt_ok r ms J p n q hq).oth) (by unfold prt; rw [List.length_map, List.length_map, List.length_take]; omega)
      obtain ⟨m, hm⟩ : ∃ m, ms[n] = m := ⟨_, rfl⟩
      rw [hm] at hc0 hc1 hc2 hc3 hc4 hwf g1 g2 g3 HPS HNO HAS
      have HLM := Lib.hid (memP_len HV.out hJl ms p m r)
      clear hm
      obtain ⟨PS, hPS⟩ : ∃ PS, prt r ms J p n = PS := ⟨_, rfl⟩
      rw [hPS] at HDR HPS HXB HXF b1 b2 b3
      obtain ⟨X, hX⟩ : ∃ X, docX PS = X := ⟨_, rfl⟩
      rw [hX] at HDR HXB HXF
      obtain ⟨pl, hpl⟩ : ∃ t, sumI (PS.map (·.plug)) = t := ⟨_, rfl⟩
      obtain ⟨ou, hou⟩ : ∃ t, sumI (PS.map (·.out)) = t := ⟨_, rfl⟩
      obtain ⟨ot, hot⟩ : ∃ t, sumI (PS.map (·.oth)) = t := ⟨_, rfl⟩
      rw [hpl] at HDR b1
      rw [hou] at HDR b2
      rw [hot] at HDR b3
      have HSUMS : Hid (prt r ms J p n = PS ∧ docX PS = X ∧ sumI (PS.map (·.plug)) = pl ∧ sumI (PS.map (·.out)) = ou ∧ sumI (PS.map (·.oth)) = ot) := Lib.hid ⟨hPS, hX, hpl, hou, hot⟩
      have HB9 := Lib.hid (And.intro b1 (And.intro b2 b3))
      have HGM := Lib.hid (And.intro g1 (And.intro g2 g3))
      have HWF := Lib.hid hwf
      clear hPS hX hpl hou hot b1 b2 b3 g1 g2 g3 hwf
      have HMB0 := Lib.hid (blk_new wr (.cells #[.int .i64 m.en, .int .i64 m.sh, .int .i64 m.cl, .int .i64 m.av, .int .i64 m.ol] 90))
      have HDA := Lib.hid (HDR.out.call ((Below.refl wr.heap.size wr).alloc (Nat.le_refl _) (.cells #[.int .i64 m.en, .int .i64 m.sh, .int .i64 m.cl, .int .i64 m.av, .int .i64 m.ol] 90)))
      have HLN := Lib.hid (r10Lines_any J ja jc m.en 0 p _ (Sl.keep (fun k hk _ => HDA.out.bel.block k hk) HJA.out) HV.out.good (by omega))
      have HLA := Lib.hid (linesOf_amt HV.out m.en 0 p)
      have hln := linesOf_len8 HV.out hJl m.en p
      have HDL := Lib.hid (doc_lin (ms := ms) (e := m.en) HLA.out (by omega))
      have hw2 := HDR.out.lt
      clear HDR
      go_wp2_with fail
      refine HLN.out.mono ?_
      rintro en1 w1 ⟨vl, rfl, hol, hb1⟩
      obtain ⟨LS, hLS⟩ : ∃ LS, linesOf J m.en 0 p = LS := ⟨_, rfl⟩
      rw [hLS] at hol HLA hln HDL
      obtain ⟨la, lc, rfl, _, _, hsl⟩ := hol.slice
      have HLS := Lib.hid hsl
      have HD1 := Lib.hid (HDA.out.call hb1)
      have HMB1 := Lib.hid (blk_below HMB0.out hb1)
      have HMS1 := Lib.hid (Sl.keep (fun k hk _ => HD1.out.bel.block k hk) HMS.out)
      have hwb : wr.heap.size < w1.heap.size := blk_lt HMB1.out
      obtain ⟨B, hB⟩ : ∃ B, wr.heap.size = B := ⟨_, rfl⟩
      rw [hB] at hwb hw2 HMB1 ⊢
      clear hB
      clear hLS hol hsl hb1 HDA HMB0 HLN hc0 hc1 hc2 hc3 hc4 hadl
      have hl' : LS.length ≤ 9223372036854775807 := by omega
      go_wp2_with fail
      go_loopw [13, 14, 16] (fun vo vt vk wq => ∃ (k : Nat) (vx : Value), vx = vo ∧ k ≤ LS.length ∧ vk = .int .i64 k ∧ vt = .int .i64 (sumA (inL ms (LS.take k))) ∧ OwnL tBal wq w1.heap.size vx (refS (outL ms (LS.take k))) ∧ Below w1.heap.size w1 wq) (fun _ _ vk _ => LS.length - (intOf vk).toNat)
      case atStart => exact ⟨0, _, rfl, Nat.zero_le _, rfl, rfl, OwnL.nil _ _, Below.refl _ _⟩
      case round =>
        obtain ⟨k, vo, rfl, hk, rfl, rfl, ho, hb⟩ := hrel
        have HO := Lib.hid ho
        have HB := Lib.hid hb
        clear ho hb
        have hil : (inL ms (LS.take k)).length ≤ 8000 := by
          have := List.length_filter_le (fun x : Ln => innB ms x.par) (LS.take k)
          rw [List.length_take] at this
          unfold inL
          omega
        have hol : (outL ms (LS.take k)).length ≤ 8000 := by
          have := outL_len ms (LS.take k)
          rw [List.length_take] at this
          omega
        have hib := sumA_bd (inL ms (LS.take k)) (fun x hx => HLA.out x (List.mem_of_mem_take (List.mem_filter.1 hx).1))
        have hrl2 : (refS (outL ms (LS.take k))).length ≤ 8000 := by
          have := (refS_all _ (outL ms (LS.take k)) rfl).2.2
          omega
        by_cases hlk : k < LS.length
        · obtain ⟨ad2, rfl, _, hadl2, hc0, hc1, hc2, hgx⟩ := ln_at (Sl.keep (fun k hk _ => HB.out.block k hk) HLS.out) k hlk
          have HOUT := Lib.hid (outL_snoc ms (LS.take k) LS[k])
          have HIN := Lib.hid (inL_snoc ms (LS.take k) LS[k])
          rw [← List.take_succ_eq_append_getElem hlk] at HOUT HIN
          have hmx := HLA.out _ (List.getElem_mem hlk)
          have HRB : Hid (∀ x ∈ refS (outL ms (LS.take k)), -8000000000000000000 ≤ x.2 ∧ x.2 ≤ 8000000000000000000) := Lib.hid (refS_bd (fun x hx => HLA.out x (List.mem_of_mem_take (List.mem_filter.1 hx).1)) hol)
          generalize LS[k] = x at *
          obtain ⟨oa, oc, rfl, _, _, hos⟩ := HO.out.slice
          have HOS := Lib.hid hos
          have HKA : Hid (I64 x.acc) := Lib.hid hgx.1
          obtain ⟨S, hS⟩ : ∃ S, sumA (inL ms (LS.take k)) = S := ⟨_, rfl⟩
          have hsb : -8000000000000000000 ≤ S ∧ S ≤ 8000000000000000000 := by rw [hS] at hib; omega
          have HS := Lib.hid hS
          rw [hS]
          clear hos hgx hib hS hil hol
          have hrd : Sl tRm wr (fun _ => True) (some ad) ms := Sl.mono (fun _ _ _ => trivial) (Sl.keep (fun k hk _ => HB.out.block k hk) HMS1.out)
          have HMEM := Lib.hid (r10Member_any ms (some ad) mc x.par wr hrd (by unfold maxLen; omega))
          clear hrd
          rcases (show x.par ≤ 0 ∨ 0 < x.par by omega) with hp | hp
          · have hin := inn_low HG.out hp
            have HN : Hid (outL ms (LS.take (k + 1)) = outL ms (LS.take k) ++ [x] ∧ inL ms (LS.take (k + 1)) = inL ms (LS.take k)) := Lib.hid ⟨by rw [HOUT.out, hin]; rfl, by rw [HIN.out, hin]; rfl⟩
            have hcell := And.intro hc0 hc1
            have HCE : Hid (∀ W, Below wr.heap.size wr W → (W.cell? (ad2.add (k * 3)) = some (.int .i64 x.acc) ∧ W.cell? ⟨(ad2.add (k * 3)).block, (ad2.add (k * 3)).off + 1, none⟩ = some (.int .i64 x.amt))) := Lib.hid (fun W hb => by
              have hbk : W.heap[(ad2.add (k * 3)).block]? = wr.heap[(ad2.add (k * 3)).block]? := by rw [add_block]; exact hb.block _ hadl2
              exact ⟨by rw [← hcell.1]; exact World.cell?_of_block (w := wr) hbk, by rw [← hcell.2]; exact World.cell?_of_block (w := wr) hbk⟩)
            have HPU := Lib.hid (r10Put_any (refS (outL ms (LS.take k))) oa oc x.acc x.amt wr.drew (Sl.keep (w := wr) (w' := wr.drew) (fun k hk _ => rfl) HOS.out) (by omega) HKA.out hmx.1 hmx.2 HRB.out)
            have HBD : Hid (Below wr.heap.size wr wr.drew) := Lib.hid (Below.drew (Below.refl _ _))
            clear hmx hcell
            clear hin HMEM
            go_wp2_with fail
            go_region_held3 (fun w' => w'.cell? (ad2.add (k * 3)) = some (.int .i64 x.acc) ∧ w'.cell? ⟨(ad2.add (k * 3)).block, (ad2.add (k * 3)).off + 1, none⟩ = some (.int .i64 x.amt)) (first | with_reducible exact HCE.out _ HB4.out | with_reducible exact HCE.out _ HBD.out) ((go_at_call 33; refine HPU.out.mono ?_; rintro en w4 ⟨v4, rfl, ho, hb⟩; have HB4 : Hid (Below wr.heap.size wr w4) := Lib.hid (belows_then HBD.out HBD.out.size hb); have HO4 := Lib.hid ho; clear ho hb))
            have HON : Hid (OwnL tBal w4 w1.heap.size v4 (refS (outL ms (LS.take (k + 1))))) := Lib.hid (by rw [HN.out.1, refS_sn]; exact HO4.out.mono HB.out.size)
            have HBN := Lib.hid (belows_then HB.out HB.out.size HB4.out)
            go_wp2_with fail
            go_roundw
            case rel => exact ⟨k + 1, _, rfl, by omega, by go_num, by rw [HN.out.2, HS.out], HON.out, HBN.out⟩
            case measure => simp [intOf]; omega
          · cases hin : innB ms x.par
            · have HN : Hid (outL ms (LS.take (k + 1)) = outL ms (LS.take k) ++ [x] ∧ inL ms (LS.take (k + 1)) = inL ms (LS.take k)) := Lib.hid ⟨by rw [HOUT.out, hin]; rfl, by rw [HIN.out, hin]; rfl⟩
              rw [hin] at HMEM
              have hcell := And.intro hc0 hc1
              have HCE : Hid (∀ W, Below wr.heap.size wr W → (W.cell? (ad2.add (k * 3)) = some (.int .i64 x.acc) ∧ W.cell? ⟨(ad2.add (k * 3)).block, (ad2.add (k * 3)).off + 1, none⟩ = some (.int .i64 x.amt))) := Lib.hid (fun W hb => by
                have hbk : W.heap[(ad2.add (k * 3)).block]? = wr.heap[(ad2.add (k * 3)).block]? := by rw [add_block]; exact hb.block _ hadl2
                exact ⟨by rw [← hcell.1]; exact World.cell?_of_block (w := wr) hbk, by rw [← hcell.2]; exact World.cell?_of_block (w := wr) hbk⟩)
              have HPU := Lib.hid (r10Put_any (refS (outL ms (LS.take k))) oa oc x.acc x.amt wr.drew (Sl.keep (w := wr) (w' := wr.drew) (fun k hk _ => rfl) HOS.out) (by omega) HKA.out hmx.1 hmx.2 HRB.out)
              have HBD : Hid (Below wr.heap.size wr wr.drew) := Lib.hid (Below.drew (Below.refl _ _))
              clear hmx hcell
              clear hin
              go_wp2_with fail
              refine HMEM.out.mono ?_
              rintro en2 w2 ⟨rfl, rfl⟩
              go_wp2_with fail
              go_region_held3 (fun w' => w'.cell? (ad2.add (k * 3)) = some (.int .i64 x.acc) ∧ w'.cell? ⟨(ad2.add (k * 3)).block, (ad2.add (k * 3)).off + 1, none⟩ = some (.int .i64 x.amt)) (first | with_reducible exact HCE.out _ HB4.out | with_reducible exact HCE.out _ HBD.out) ((go_at_call 33; refine HPU.out.mono ?_; rintro en w4 ⟨v4, rfl, ho, hb⟩; have HB4 : Hid (Below w2.heap.size w2 w4) := Lib.hid (belows_then HBD.out HBD.out.size hb); have HO4 := Lib.hid ho; clear ho hb))
              have HON : Hid (OwnL tBal w4 w1.heap.size v4 (refS (outL ms (LS.take (k + 1))))) := Lib.hid (by rw [HN.out.1, refS_sn]; exact HO4.out.mono HB.out.size)
              have HBN := Lib.hid (belows_then HB.out HB.out.size HB4.out)
              go_wp2_with fail
              go_roundw
              case rel => exact ⟨k + 1, _, rfl, by omega, by go_num, by rw [HN.out.2, HS.out], HON.out, HBN.out⟩
              case measure => simp [intOf]; omega
            · have HN : Hid (outL ms (LS.take (k + 1)) = outL ms (LS.take k) ∧ inL ms (LS.take (k + 1)) = inL ms (LS.take k) ++ [x]) := Lib.hid ⟨by rw [HOUT.out, hin]; rfl, by rw [HIN.out, hin]; rfl⟩
              rw [hin] at HMEM
              have hsx : Hid (sumA (inL ms (LS.take (k + 1))) = S + x.amt) := Lib.hid (by rw [HN.out.2, sumA_snoc, HS.out])
              clear hin hc0
              go_wp2_with fail
              refine HMEM.out.mono ?_
              rintro en2 w2 ⟨rfl, rfl⟩
              go_wp2_with fail
              go_roundw
              case rel => exact ⟨k + 1, _, rfl, by omega, by go_num, by rw [hsx.out], by rw [HN.out.1]; exact HO.out, HB.out⟩
              case measure => simp [intOf]; omega
        · have HTL : Hid (LS.take k = LS) := Lib.hid (take_all hk hlk)
          have ho := HO.out
          rw [HTL.out] at ho hrl2 hib ⊢
          obtain ⟨O, hO⟩ : ∃ O, sumA (inL ms LS) = O := ⟨_, rfl⟩
          obtain ⟨R, hR⟩ : ∃ R, refS (outL ms LS) = R := ⟨_, rfl⟩
          rw [hO, hR] at HDL
          rw [hO]
          rw [hR] at hrl2 ho
          obtain ⟨oa, oc, rfl, _, _, hos⟩ := ho.slice
          have HDL2 := Lib.hid HDL.out
          have HD2 := Lib.hid (HD1.out.call HB.out)
          have HMB2 := Lib.hid (blk_below HMB1.out HB.out)
          have HOS := Lib.hid hos
          obtain ⟨⟨L, ok⟩, hpl⟩ : ∃ t, plainT R = t := ⟨_, rfl⟩
          have HPL := Lib.hid (r10Plain_any R oa oc wr HOS.out (by omega))
          rw [hpl] at HPL HDL2
          have hLl : L.length ≤ 800 := by
            have h1 := List.length_filter_le nzB R
            have h2 : L.length ≤ R.length := by
              unfold plainT at hpl
              split at hpl
              · injection hpl with h3 _
                rw [← h3]
                exact h1
              · injection hpl with h3 _
                rw [← h3]
                simp
            have h4 := (refS_all _ (outL ms LS) rfl).2.2
            have h5 := outL_len ms LS
            rw [hR] at h4
            omega
          have hLf : ok = true → ∀ x ∈ L, fitsB x.2 = true := by
            intro hk x hx
            unfold plainT at hpl
            split at hpl
            · rename_i hall
              injection hpl with h3 _
              rw [← h3] at hx
              rw [List.all_eq_true] at hall
              exact hall x (List.mem_filter.1 hx).1
            · injection hpl with _ h3
              rw [← h3] at hk
              cases hk
          have HLF := Lib.hid hLf
          clear ho hos hO hR hpl hLf hib HO HB HD1 HMB1 HLS HDL
          simp only at HPL HDL2
          go_wp2_with fail
          refine HPL.out.mono ?_
          rintro en3 w3 ⟨v3, rfl, ho3, hb3⟩
          have HD3 := Lib.hid (HD2.out.call hb3)
          have HMB3 := Lib.hid (blk_below HMB2.out hb3)
          obtain ⟨la3, lc3, rfl, _, _, hs3⟩ := ho3.slice
          have HL3 := Lib.hid hs3
          clear ho3 hb3 hs3 HPL HD2 HMB2 HOS
          simp only
          cases ok
          · have HTT : Hid (D = (grp0, false)) := Lib.hid (by rw [← HD.out]; exact HNO.out (fun h => HDL2.out.2 (.inl (by first | trivial | rfl)) (memE_no h).1))
            have hcz := blk_cells HD3.out.res
            have hfz := blk_frz HD3.out.res
            have hlz := blk_lt HD3.out.res
            go_wp2_with fail
            obtain ⟨w9, hw9, h9, hs9, hk9, hb9⟩ := seven _ w.heap.size HD3.out.res (.slice none 0 0) (.int .i64 0) (.int .i64 0) (.int .i64 0) (.int .i64 0) (.int .i64 0) (.int .i64 0)
            rw [hw9]
            clear hw9
            refine bodyPost_ret (v := .tuple #[.agg #[.slice none 0 0, .int .i64 0, .int .i64 0, .int .i64 0, .int .i64 0, .int .i64 0, .int .i64 0], .bool false]) (results_row_tmp (fn := Tryz.f15) (p := 8) (ty := 57) rfl _ _ w.heap.size 57 _ (0, 0) _ rfl h9 Tryz.underlying57 rfl (by kernel_rfl)) rfl ?_
            rw [HTT.out]
            exact ⟨_, rfl, OwnL.nil _ _, hb9 _ _ HD3.out.bel (Nat.le_refl _)⟩
          · have HLF2 : Hid (∀ x ∈ L, fitsB x.2 = true) := Lib.hid (HLF.out (by first | trivial | rfl))
            clear HLF
            go_wp2_with fail
            refine (rfits_any O w3).mono ?_
            rintro en4 w4 ⟨rfl, rfl⟩
            cases hfo : fitsB O
            · have HTT : Hid (D = (grp0, false)) := Lib.hid (by rw [← HD.out]; exact HNO.out (fun h => HDL2.out.2 (.inr hfo) (memE_no h).1))
              clear hfo
              have hcz := blk_cells HD3.out.res
              have hfz := blk_frz HD3.out.res
              have hlz := blk_lt HD3.out.res
              go_wp2_with fail
              obtain ⟨w9, hw9, h9, hs9, hk9, hb9⟩ := seven _ w.heap.size HD3.out.res (.slice none 0 0) (.int .i64 0) (.int .i64 0) (.int .i64 0) (.int .i64 0) (.int .i64 0) (.int .i64 0)
              rw [hw9]
              clear hw9
              refine bodyPost_ret (v := .tuple #[.agg #[.slice none 0 0, .int .i64 0, .int .i64 0, .int .i64 0, .int .i64 0, .int .i64 0, .int .i64 0], .bool false]) (results_row_tmp (fn := Tryz.f15) (p := 8) (ty := 57) rfl _ _ w.heap.size 57 _ (0, 0) _ rfl h9 Tryz.underlying57 rfl (by kernel_rfl)) rfl ?_
              rw [HTT.out]
              exact ⟨_, rfl, OwnL.nil _ _, hb9 _ _ HD3.out.bel (Nat.le_refl _)⟩
            · have HLT : Hid (linT ms J m.en p = ((L, O), 0)) := Lib.hid (HDL2.out.1 (by first | trivial | rfl) hfo)
              have HFO := Lib.hid hfo
              have HTRN := Lib.hid (r10Turn_any r ra rc HGM.out.1 L la3 lc3 w4 (Sl.keep (fun k hk _ => HD3.out.bel.block k hk) HRA.out) hrl HL3.out hLl HLF2.out)
              have hgm := HGM.out
              have hcl : 0 ≤ m.cl ∧ m.cl ≤ 1000000000 := by
                have := hgm.1
                unfold mbB rateB at this
                simp at this
                omega
              have hsh : 0 ≤ 10000 - m.sh ∧ 10000 - m.sh ≤ 10000 := by omega
              obtain ⟨⟨⟨T, tp⟩, te⟩, ht⟩ : ∃ t, trnT r m L = t := ⟨_, rfl⟩
              rw [ht] at HTRN
              have HT := Lib.hid ht
              have hcb := blk_cells HMB3.out
              have hlb := blk_lt HMB3.out
              clear hfo hgm ht HDL2
              go_wp2_with fail
              refine HTRN.out.mono ?_
              rintro en5 w5 ⟨v5, rfl, ho5, hb5⟩
              have HD5 := Lib.hid (HD3.out.call hb5)
              have HMB5 := Lib.hid (blk_below HMB3.out hb5)
              have hcb5 := blk_cells HMB5.out
              have hlb5 := blk_lt HMB5.out
              obtain ⟨ta, tc, rfl, _, _, hs5⟩ := ho5.slice_free (fun _ _ _ _ _ h => bal_Free _ _ _ _ _ _ h)
              have HT5 : Hid (Sl tBal w5 (fun k => w.heap.size + 2 ≤ k) ta T) := Lib.hid (Sl.mono (fun k hk h => Nat.le_trans HD3.out.lt h.1) hs5)
              have HSC := Lib.hid (rscale_any (a := O) (n := m.cl) (d := 1000000) w5 HFO.out hcl.1 hcl.2 (by decide) (by decide))
              obtain ⟨⟨o, es⟩, hsc⟩ : ∃ t, scaleT O m.cl 1000000 = t := ⟨_, rfl⟩
              rw [hsc] at HSC
              have HSQ := Lib.hid hsc
              clear ho5 hb5 hs5 HTRN hcb hlb hsc HD3 HMB3
              simp only
              go_wp2_with fail
              refine HSC.out.mono ?_
              rintro en6 w6 ⟨rfl, hb6⟩
              have HD6 := Lib.hid (HD5.out.call hb6)
              have HS6 : Hid (TSt w w6 B #[.int .i64 m.en, .int .i64 m.sh, .int .i64 m.cl, .int .i64 m.av, .int .i64 m.ol] ta T v (refP X) pl ou ot (qSum (kB r [1]) X) (-qSum (kB r [2]) X) 0) := Lib.hid ⟨HD6.out, hw2, blk_below HMB5.out hb6, Sl.keep (fun k hk _ => hb6.block k hk) HT5.out⟩
              clear hb6 HSC hcb5 hlb5 HD5 HMB5 HT5 HL3
              have hte := trnT_err r m L
              rw [HT.out] at hte
              have hes := scaleT_err O m.cl 1000000
              rw [HSQ.out] at hes
              simp only at hte hes
              rcases hte with rfl | rfl
              case inr =>
                have HTT : Hid (D = (grp0, false)) := Lib.hid (by rw [← HD.out]; exact HNO.out (fun h => by have h2 := (memE_no h).2.1; rw [HLT.out] at h2; simp only at h2; rw [HT.out] at h2; cases h2))
                have hcz := blk_cells HD6.out.res
                have hfz := blk_frz HD6.out.res
                have hlz := blk_lt HD6.out.res
                go_wp2_with fail
                obtain ⟨w9, hw9, h9, hs9, hk9, hb9⟩ := seven _ w.heap.size HD6.out.res (.slice none 0 0) (.int .i64 0) (.int .i64 0) (.int .i64 0) (.int .i64 0) (.int .i64 0) (.int .i64 0)
                rw [hw9]
                clear hw9
                refine bodyPost_ret (v := .tuple #[.agg #[.slice none 0 0, .int .i64 0, .int .i64 0, .int .i64 0, .int .i64 0, .int .i64 0, .int .i64 0], .bool false]) (results_row_tmp (fn := Tryz.f15) (p := 8) (ty := 57) rfl _ _ w.heap.size 57 _ (0, 0) _ rfl h9 Tryz.underlying57 rfl (by kernel_rfl)) rfl ?_
                rw [HTT.out]
                exact ⟨_, rfl, OwnL.nil _ _, hb9 _ _ HD6.out.bel (Nat.le_refl _)⟩
              case inl =>
                rcases hes with rfl | rfl
                case inr =>
                  have HTT : Hid (D = (grp0, false)) := Lib.hid (by rw [← HD.out]; exact HNO.out (fun h => by have h2 := (memE_no h).2.2; rw [HLT.out] at h2; simp only at h2; rw [HSQ.out] at h2; cases h2))
                  have hcz := blk_cells HD6.out.res
                  have hfz := blk_frz HD6.out.res
                  have hlz := blk_lt HD6.out.res
                  go_wp2_with fail
                  obtain ⟨w9, hw9, h9, hs9, hk9, hb9⟩ := seven _ w.heap.size HD6.out.res (.slice none 0 0) (.int .i64 0) (.int .i64 0) (.int .i64 0) (.int .i64 0) (.int .i64 0) (.int .i64 0)
                  rw [hw9]
                  clear hw9
                  refine bodyPost_ret (v := .tuple #[.agg #[.slice none 0 0, .int .i64 0, .int .i64 0, .int .i64 0, .int .i64 0, .int .i64 0, .int .i64 0], .bool false]) (results_row_tmp (fn := Tryz.f15) (p := 8) (ty := 57) rfl _ _ w.heap.size 57 _ (0, 0) _ rfl h9 Tryz.underlying57 rfl (by kernel_rfl)) rfl ?_
                  rw [HTT.out]
                  exact ⟨_, rfl, OwnL.nil _ _, hb9 _ _ HD6.out.bel (Nat.le_refl _)⟩
                case inl =>
                  have hTf : ∀ x ∈ T, fitsB x.2 = true := by rw [(trnT_ok HT.out).1]; exact trn_fit
                  have hTl : T.length ≤ 800 := by
                    have := trnL_len r m L
                    rw [← (trnT_ok HT.out).1] at this
                    omega
                  have hof : fitsB o = true := by have := scaleT_fitT (a := O) (n := m.cl) (d := 1000000); rw [HSQ.out] at this; exact this
                  have hob : -1000000000000000 ≤ o ∧ o ≤ 1000000000000000 := by simpa [fitsB] using hof
                  have HTF := Lib.hid hTf
                  have hXl : X.length ≤ 7200 := by have := HXB.out; omega
                  clear hTf hof HD6
                  go_wp2_with fail
                  refine abs_world (S := fun wx => TSt w wx B #[.int .i64 m.en, .int .i64 m.sh, .int .i64 m.cl, .int .i64 m.av, .int .i64 m.ol] ta T v (refP X) pl ou ot (qSum (kB r [1]) X) (-qSum (kB r [2]) X) 0) ?_ HS6.out
                  clear HS6
                  rintro wy hwy
                  have HS6 := Lib.hid hwy
                  clear hwy
                  go_loopw [23, 24, 25, 26] (fun va vn vk vd wr => ∃ (k : Nat) (vL : Value) (OW OD : Int), k ≤ T.length ∧ vk = .int .i64 k ∧ va = .int .i64 (o + sumI ((T.take k).map (·.2))) ∧ vn = .int .i64 (o + sumI (((T.take k).filter (shrB r)).map (·.2))) ∧ Hid (qSum (kB r [1]) (X ++ T.take k) = OW ∧ -qSum (kB r [2]) (X ++ T.take k) = OD) ∧ TSt w wr B #[.int .i64 m.en, .int .i64 m.sh, .int .i64 m.cl, .int .i64 m.av, .int .i64 m.ol] ta T vL (refP (X ++ T.take k)) pl ou ot OW OD 0) (fun _ _ vk _ _ => T.length - (intOf vk).toNat)
                  case atStart => exact ⟨0, v, _, _, Nat.zero_le _, rfl, by simp [sumI], by simp [sumI], Lib.hid (by rw [List.take_zero, List.append_nil]; exact ⟨rfl, rfl⟩), by rw [List.take_zero, List.append_nil]; exact HS6.out⟩
                  case round =>
                    obtain ⟨k, vL, OW, OD, hk, rfl, rfl, rfl, hq12, hq⟩ := hrel
                    have HQ := Lib.hid hq
                    clear hq HS6
                    by_cases hlk : k < T.length
                    · skip
                      obtain ⟨ad3, rfl, hF3, hadl3, hc0, hc1, g0, g1⟩ := bal_at HQ.out.sl k hlk
                      have hne3 : ad3.block ≠ w.heap.size + 1 := by omega
                      have hxf := HTF.out _ (List.getElem_mem hlk)
                      have hXT : ∀ x ∈ X ++ T.take k, fitsB x.2 = true := fun x hx => by
                        rcases List.mem_append.1 hx with h | h
                        · exact HXF.out x h
                        · exact HTF.out x (List.mem_of_mem_take h)
                      have hXTl : (X ++ T.take k).length ≤ 8000 := by rw [List.length_append, List.length_take]; omega
                      have hq1 := qSum_bd (kB r [1]) _ hXT
                      have hq2 := qSum_bd (kB r [2]) _ hXT
                      rw [hq12.out.1] at hq1
                      have HRB := Lib.hid (refP_bd hXT hXTl)
                      have hRl : (refP (X ++ T.take k)).length ≤ 8000 := Nat.le_trans (refP_len (X ++ T.take k)) hXTl
                      have hsa := sumI_bdF ((T.take k).map (·.2)) (all_mapF fun x hx => HTF.out x (List.mem_of_mem_take hx))
                      have hsn := sumI_bdF (((T.take k).filter (shrB r)).map (·.2)) (all_mapF fun x hx => HTF.out x (List.mem_of_mem_take (List.mem_filter.1 hx).1))
                      have hln1 : ((T.take k).map (·.2)).length ≤ 800 := by rw [List.length_map, List.length_take]; omega
                      have hln2 : (((T.take k).filter (shrB r)).map (·.2)).length ≤ 800 := by
                        have := List.length_filter_le (shrB r) (T.take k)
                        rw [List.length_take] at this
                        rw [List.length_map]
                        omega
                      have hts := List.take_succ_eq_append_getElem hlk
                      obtain ⟨⟨kc, kv⟩, hx⟩ : ∃ x, T[k] = x := ⟨_, rfl⟩
                      rw [hx] at hc0 hc1 g0 g1 hxf hts
                      simp only at hc0 hc1 g0 g1 hxf
                      have hkb : -1000000000000000 ≤ kv ∧ kv ≤ 1000000000000000 := by simpa [fitsB] using hxf
                      have HX := Lib.hid hx
                      have HXS : Hid (refP (X ++ T.take (k + 1)) = putL (refP (X ++ T.take k)) kc kv) := Lib.hid (by rw [hts, ← List.append_assoc, refP_snoc])
                      have HQS : Hid (∀ q : Int → Bool, qSum q (X ++ T.take (k + 1)) = qSum q (X ++ T.take k) + (if q kc then kv else 0)) := Lib.hid (fun q => by rw [hts, ← List.append_assoc, qSum_snoc])
                      have HSA : Hid (o + sumI ((T.take (k + 1)).map (·.2)) = (o + sumI ((T.take k).map (·.2))) + kv) := Lib.hid (by rw [hts, sumI_mapsnoc]; omega)
                      have HSN : Hid (o + sumI (((T.take (k + 1)).filter (shrB r)).map (·.2)) = if shrB r (kc, kv) then (o + sumI (((T.take k).filter (shrB r)).map (·.2))) + kv else o + sumI (((T.take k).filter (shrB r)).map (·.2))) := Lib.hid (by
                        rw [hts, List.filter_append]
                        cases hs : shrB r (kc, kv)
                        · simp [hs]
                        · rw [show [(kc, kv)].filter (shrB r) = [(kc, kv)] by simp [hs], sumI_mapsnoc]
                          simp only [if_true]
                          omega)
                      obtain ⟨al, hal⟩ : ∃ s, o + sumI ((T.take k).map (·.2)) = s := ⟨_, rfl⟩
                      obtain ⟨nt, hnt⟩ : ∃ s, o + sumI (((T.take k).filter (shrB r)).map (·.2)) = s := ⟨_, rfl⟩
                      rw [hal] at HSA
                      rw [hnt] at HSN
                      rw [hal, hnt]
                      have hab : -900000000000000000 ≤ al ∧ al ≤ 900000000000000000 := by omega
                      have hnb : -900000000000000000 ≤ nt ∧ nt ≤ 900000000000000000 := by omega
                      have how : -8000000000000000000 ≤ OW ∧ OW ≤ 8000000000000000000 := by omega
                      have hod : -8000000000000000000 ≤ OD ∧ OD ≤ 8000000000000000000 := by have := hq12.out.2; omega
                      have HKI := Lib.hid (r10kind_any r ra rc kc wr (Sl.keep (fun k hk _ => HQ.out.ds.bel.block k hk) HRA.out) (by unfold maxLen; omega))
                      have HSK := Lib.hid (shr_kind HGA.out (kc, kv))
                      have HK1 := Lib.hid (kB_kind r 1 kc (by decide))
                      have HK2 := Lib.hid (kB_kind r 2 kc (by decide))
                      obtain ⟨kd, hkd⟩ : ∃ t, kindA r kc = t := ⟨_, rfl⟩
                      rw [hkd] at HKI HK1 HK2
                      simp only [hkd] at HSK
                      have G0 := Lib.hid g0
                      clear g0 g1 hxf hXT hXTl hq1 hq2 hsa hsn hln1 hln2 hts hx hal hnt hkd
                      go_wp2_with fail
                      refine HKI.out.mono ?_
                      rintro en7 w7 ⟨rfl, hb7⟩
                      have HQ2 := Lib.hid (HQ.out.call hb7)
                      obtain ⟨oa, oc, rfl, _, _, hos⟩ := HQ2.out.ds.own.slice
                      have hadl7 : ad3.block < w7.heap.size := Nat.lt_of_lt_of_le hadl3 hb7.size
                      have hd1 : w7.cell? (ad3.add (k * 2)) = some (.int .i64 kc) ∧ w7.cell? ⟨(ad3.add (k * 2)).block, (ad3.add (k * 2)).off + 1, none⟩ = some (.int .i64 kv) := ⟨(World.cell?_of_block (w := wr) (by rw [add_block]; exact hb7.block _ hadl3)).trans hc0, (World.cell?_of_block (w := wr) (by show w7.heap[(ad3.add (k * 2)).block]? = _; rw [add_block]; exact hb7.block _ hadl3)).trans hc1⟩
                      have HPU := Lib.hid (r10Put_any (refP (X ++ T.take k)) oa oc kc kv w7.drew (Sl.keep (w := w7) (w' := w7.drew) (fun k hk _ => rfl) hos) (by omega) G0.out hkb.1 hkb.2 HRB.out)
                      have HBD : Hid (Below w7.heap.size w7 w7.drew) := Lib.hid (Below.drew (Below.refl _ _))
                      clear hos hb7 HKI HQ hc0 hc1
                      rcases (show kd = 1 ∨ kd ≠ 1 ∧ (kd = 2 ∨ kd ≠ 2) by omega) with rfl | ⟨hk1, rfl | hk2⟩
                      · have hsh : shrB r (kc, kv) = false := HSK.out.trans rfl
                        have hk1 : kB r [1] kc = true := HK1.out.trans rfl
                        have hk2 : kB r [2] kc = false := HK2.out.trans rfl
                        have H12 : Hid (qSum (kB r [1]) (X ++ T.take (k + 1)) = OW + kv ∧ -qSum (kB r [2]) (X ++ T.take (k + 1)) = OD) := Lib.hid ⟨by rw [HQS.out, hk1, hq12.out.1]; rfl, by rw [HQS.out, hk2]; have := hq12.out.2; simp; omega⟩
                        rw [hsh] at HSN
                        clear hsh hk1 hk2 HSK HK1 HK2 HQS
                        have hcr := blk_cells HQ2.out.ds.cell
                        have hfr := blk_frz HQ2.out.ds.cell
                        have hlr := blk_lt HQ2.out.ds.cell
                        have hdd0 := hd1.1
                        have hdd1 := hd1.2
                        have hdx0 : w7.drew.cell? (ad3.add (k * 2)) = some (.int .i64 kc) := hd1.1
                        have hdx1 : w7.drew.cell? ⟨(ad3.add (k * 2)).block, (ad3.add (k * 2)).off + 1, none⟩ = some (.int .i64 kv) := hd1.2
                        go_wp2_with fail
                        refine still_tail 12 (by kernel_rfl) (by kernel_rfl) ?_
                        simp only [List.take_succ_cons, List.take_zero, List.drop_succ_cons, List.drop_zero]
                        repeat still_step
                        try refine wpStill_nil ?_
                        go_wp2_with fail
                        refine HPU.out.mono ?_
                        rintro en w8 ⟨v8, rfl, ho, hb⟩
                        obtain ⟨va8, vc8, rfl, _, _, _⟩ := ho.slice
                        have HB8 := belows_then HBD.out HBD.out.size hb
                        have HQ3 : Hid (TSt w (w8.setCell ⟨w.heap.size + 1, 0, none⟩ (.slice va8 (putL (refP (X ++ T.take k)) kc kv).length vc8)) B #[.int .i64 m.en, .int .i64 m.sh, .int .i64 m.cl, .int .i64 m.av, .int .i64 m.ol] (some ad3) T (.slice va8 (putL (refP (X ++ T.take k)) kc kv).length vc8) (refP (X ++ T.take (k + 1))) pl ou ot OW OD 0) := Lib.hid (by rw [HXS.out]; exact HQ2.out.putL HB8 ho)
                        have hc8 := blk_cells (blk_below HQ2.out.ds.cell HB8)
                        have hf8 := blk_frz (blk_below HQ2.out.ds.cell HB8)
                        have hl8 := blk_lt (blk_below HQ2.out.ds.cell HB8)
                        clear ho hb HB8 hcr hfr hlr hd1 hdd0 hdd1 hdx0 hdx1 HPU HBD HQ2
                        go_wp2_with fail
                        refine abs_world (S := fun wx => ∃ v8, TSt w wx B #[.int .i64 m.en, .int .i64 m.sh, .int .i64 m.cl, .int .i64 m.av, .int .i64 m.ol] (some ad3) T v8 (refP (X ++ T.take (k + 1))) pl ou ot OW OD 0) ?_ ⟨_, HQ3.out⟩
                        clear HQ3 hc8 hf8 hl8
                        rintro wx ⟨v8, hq⟩
                        have HQ3 := Lib.hid hq
                        clear hq
                        obtain ⟨ad5, he5, hF5, hadl5, hd0, hd1, _, _⟩ := bal_at HQ3.out.sl k hlk
                        obtain rfl : ad3 = ad5 := by simpa using he5
                        rw [HX.out] at hd0 hd1
                        have hcr := blk_cells HQ3.out.ds.cell
                        have hfr := blk_frz HQ3.out.ds.cell
                        have hlr := blk_lt HQ3.out.ds.cell
                        have hdx1 : wx.drew.cell? ⟨(ad3.add (k * 2)).block, (ad3.add (k * 2)).off + 1, none⟩ = some (.int .i64 kv) := hd1
                        clear he5 hF5 hadl5
                        refine still_tail 8 (by kernel_rfl) (by kernel_rfl) ?_
                        simp only [List.take_succ_cons, List.take_zero, List.drop_succ_cons, List.drop_zero]
                        repeat still_step
                        try refine wpStill_nil ?_
                        go_wp2_with fail
                        clear hcr hfr hlr hdx1 hd0 hd1
                        go_roundw
                        case rel => exact ⟨k + 1, _, OW + kv, OD, by omega, by go_num, by rw [HSA.out], by rw [HSN.out]; rfl, H12, (HQ3.out.set4 _).call (Below.drew (Below.refl _ _))⟩
                        case measure => simp [intOf]; omega
                      · have hsh : shrB r (kc, kv) = false := HSK.out.trans rfl
                        have hk1 : kB r [1] kc = false := HK1.out.trans rfl
                        have hk2 : kB r [2] kc = true := HK2.out.trans rfl
                        have H12 : Hid (qSum (kB r [1]) (X ++ T.take (k + 1)) = OW ∧ -qSum (kB r [2]) (X ++ T.take (k + 1)) = OD - kv) := Lib.hid ⟨by rw [HQS.out, hk1, hq12.out.1]; simp, by rw [HQS.out, hk2]; have := hq12.out.2; simp; omega⟩
                        rw [hsh] at HSN
                        clear hsh hk1 hk2 HSK HK1 HK2 HQS
                        have hcr := blk_cells HQ2.out.ds.cell
                        have hfr := blk_frz HQ2.out.ds.cell
                        have hlr := blk_lt HQ2.out.ds.cell
                        have hdd0 := hd1.1
                        have hdd1 := hd1.2
                        have hdx0 : w7.drew.cell? (ad3.add (k * 2)) = some (.int .i64 kc) := hd1.1
                        have hdx1 : w7.drew.cell? ⟨(ad3.add (k * 2)).block, (ad3.add (k * 2)).off + 1, none⟩ = some (.int .i64 kv) := hd1.2
                        go_wp2_with fail
                        refine still_tail 12 (by kernel_rfl) (by kernel_rfl) ?_
                        simp only [List.take_succ_cons, List.take_zero, List.drop_succ_cons, List.drop_zero]
                        repeat still_step
                        try refine wpStill_nil ?_
                        go_wp2_with fail
                        refine HPU.out.mono ?_
                        rintro en w8 ⟨v8, rfl, ho, hb⟩
                        obtain ⟨va8, vc8, rfl, _, _, _⟩ := ho.slice
                        have HB8 := belows_then HBD.out HBD.out.size hb
                        have HQ3 : Hid (TSt w (w8.setCell ⟨w.heap.size + 1, 0, none⟩ (.slice va8 (putL (refP (X ++ T.take k)) kc kv).length vc8)) B #[.int .i64 m.en, .int .i64 m.sh, .int .i64 m.cl, .int .i64 m.av, .int .i64 m.ol] (some ad3) T (.slice va8 (putL (refP (X ++ T.take k)) kc kv).length vc8) (refP (X ++ T.take (k + 1))) pl ou ot OW OD 0) := Lib.hid (by rw [HXS.out]; exact HQ2.out.putL HB8 ho)
                        have hc8 := blk_cells (blk_below HQ2.out.ds.cell HB8)
                        have hf8 := blk_frz (blk_below HQ2.out.ds.cell HB8)
                        have hl8 := blk_lt (blk_below HQ2.out.ds.cell HB8)
                        clear ho hb HB8 hcr hfr hlr hd1 hdd0 hdd1 hdx0 hdx1 HPU HBD HQ2
                        go_wp2_with fail
                        refine abs_world (S := fun wx => ∃ v8, TSt w wx B #[.int .i64 m.en, .int .i64 m.sh, .int .i64 m.cl, .int .i64 m.av, .int .i64 m.ol] (some ad3) T v8 (refP (X ++ T.take (k + 1))) pl ou ot OW OD 0) ?_ ⟨_, HQ3.out⟩
                        clear HQ3 hc8 hf8 hl8
                        rintro wx ⟨v8, hq⟩
                        have HQ3 := Lib.hid hq
                        clear hq
                        obtain ⟨ad5, he5, hF5, hadl5, hd0, hd1, _, _⟩ := bal_at HQ3.out.sl k hlk
                        obtain rfl : ad3 = ad5 := by simpa using he5
                        rw [HX.out] at hd0 hd1
                        have hcr := blk_cells HQ3.out.ds.cell
                        have hfr := blk_frz HQ3.out.ds.cell
                        have hlr := blk_lt HQ3.out.ds.cell
                        have hdx1 : wx.drew.cell? ⟨(ad3.add (k * 2)).block, (ad3.add (k * 2)).off + 1, none⟩ = some (.int .i64 kv) := hd1
                        clear he5 hF5 hadl5
                        refine still_tail 8 (by kernel_rfl) (by kernel_rfl) ?_
                        simp only [List.take_succ_cons, List.take_zero, List.drop_succ_cons, List.drop_zero]
                        repeat still_step
                        try refine wpStill_nil ?_
                        go_wp2_with fail
                        clear hcr hfr hlr hdx1 hd0 hd1
                        go_roundw
                        case rel => exact ⟨k + 1, _, OW, OD - kv, by omega, by go_num, by rw [HSA.out], by rw [HSN.out]; rfl, H12, (HQ3.out.set5 _).call (Below.drew (Below.refl _ _))⟩
                        case measure => simp [intOf]; omega
                      · have hsh : shrB r (kc, kv) = true := by rw [HSK.out]; simp [hk1, hk2]
                        have hk1' : kB r [1] kc = false := by rw [HK1.out]; simpa using hk1
                        have hk2' : kB r [2] kc = false := by rw [HK2.out]; simpa using hk2
                        have H12 : Hid (qSum (kB r [1]) (X ++ T.take (k + 1)) = OW ∧ -qSum (kB r [2]) (X ++ T.take (k + 1)) = OD) := Lib.hid ⟨by rw [HQS.out, hk1', hq12.out.1]; simp, by rw [HQS.out, hk2']; have := hq12.out.2; simp; omega⟩
                        rw [hsh] at HSN
                        have gk1 : (kd != 1) = true := by simpa using hk1
                        have gk2 : (kd != 2) = true := by simpa using hk2
                        have gk3 : (kd == 1) = false := by simpa using hk1
                        have gk4 : (kd == 2) = false := by simpa using hk2
                        clear hsh hk1 hk2 hk1' hk2' HSK HK1 HK2 HQS
                        have hcr := blk_cells HQ2.out.ds.cell
                        have hfr := blk_frz HQ2.out.ds.cell
                        have hlr := blk_lt HQ2.out.ds.cell
                        have hdd0 := hd1.1
                        have hdd1 := hd1.2
                        have hdx0 : w7.drew.cell? (ad3.add (k * 2)) = some (.int .i64 kc) := hd1.1
                        have hdx1 : w7.drew.cell? ⟨(ad3.add (k * 2)).block, (ad3.add (k * 2)).off + 1, none⟩ = some (.int .i64 kv) := hd1.2
                        go_wp2_with fail
                        refine still_tail 12 (by kernel_rfl) (by kernel_rfl) ?_
                        simp only [List.take_succ_cons, List.take_zero, List.drop_succ_cons, List.drop_zero]
                        repeat still_step
                        try refine wpStill_nil ?_
                        go_wp2_with fail
                        refine HPU.out.mono ?_
                        rintro en w8 ⟨v8, rfl, ho, hb⟩
                        obtain ⟨va8, vc8, rfl, _, _, _⟩ := ho.slice
                        have HB8 := belows_then HBD.out HBD.out.size hb
                        have HQ3 : Hid (TSt w (w8.setCell ⟨w.heap.size + 1, 0, none⟩ (.slice va8 (putL (refP (X ++ T.take k)) kc kv).length vc8)) B #[.int .i64 m.en, .int .i64 m.sh, .int .i64 m.cl, .int .i64 m.av, .int .i64 m.ol] (some ad3) T (.slice va8 (putL (refP (X ++ T.take k)) kc kv).length vc8) (refP (X ++ T.take (k + 1))) pl ou ot OW OD 0) := Lib.hid (by rw [HXS.out]; exact HQ2.out.putL HB8 ho)
                        have hc8 := blk_cells (blk_below HQ2.out.ds.cell HB8)
                        have hf8 := blk_frz (blk_below HQ2.out.ds.cell HB8)
                        have hl8 := blk_lt (blk_below HQ2.out.ds.cell HB8)
                        clear ho hb HB8 hcr hfr hlr hd1 hdd0 hdd1 hdx0 hdx1 HPU HBD HQ2
                        go_wp2_with fail
                        go_roundw
                        case rel => exact ⟨k + 1, _, OW, OD, by omega, by go_num, by rw [HSA.out], by rw [HSN.out]; rfl, H12, HQ3.out⟩
                        case measure => simp [intOf]; omega
                    · have HTL : Hid (T.take k = T) := Lib.hid (take_all hk hlk)
                      have hq := HQ.out
                      have hq2 := hq12.out
                      rw [HTL.out] at hq hq2 ⊢
                      have HQ1 := Lib.hid hq
                      have HQW := Lib.hid hq2
                      have hsa := sumI_bdF (T.map (·.2)) (all_mapF fun x hx => HTF.out x hx)
                      have hsn := sumI_bdF ((T.filter (shrB r)).map (·.2)) (all_mapF fun x hx => HTF.out x (List.mem_filter.1 hx).1)
                      have hln1 : (T.map (·.2)).length ≤ 800 := by rw [List.length_map]; omega
                      have hln2 : ((T.filter (shrB r)).map (·.2)).length ≤ 800 := by
                        have := List.length_filter_le (shrB r) T
                        rw [List.length_map]
                        omega
                      obtain ⟨al, hal⟩ : ∃ s, o + sumI (T.map (·.2)) = s := ⟨_, rfl⟩
                      obtain ⟨nt, hnt⟩ : ∃ s, o + sumI ((T.filter (shrB r)).map (·.2)) = s := ⟨_, rfl⟩
                      have HDM := Lib.hid (doc_mem (r := r) HLT.out HT.out HSQ.out hal (net := nt - al) (by rw [hnt]))
                      rw [hal, hnt]
                      have hab : -900000000000000000 ≤ al ∧ al ≤ 900000000000000000 := by omega
                      have hnb : -900000000000000000 ≤ nt ∧ nt ≤ 900000000000000000 := by omega
                      have hwr : IntKind.i64.wrap (nt - al) = nt - al := wrap_is (by omega) (by omega)
                      clear hq hq2 hsa hsn hln1 hln2 hal hnt HQ hq12
                      go_wp2_with fail
                      refine (rfits_any al wr).mono ?_
                      rintro en8 w8 ⟨rfl, rfl⟩
                      cases hfa : fitsB al
                      · have HTT : Hid (D = (grp0, false)) := Lib.hid (by rw [← HD.out]; exact HNO.out (fun h => by rw [HDM.out.1 hfa] at h; cases h))
                        have HD8 := Lib.hid HQ1.out.ds
                        clear hfa
                        have hcz := blk_cells HD8.out.res
                        have hfz := blk_frz HD8.out.res
                        have hlz := blk_lt HD8.out.res
                        go_wp2_with fail
                        obtain ⟨w9, hw9, h9, hs9, hk9, hb9⟩ := seven _ w.heap.size HD8.out.res (.slice none 0 0) (.int .i64 0) (.int .i64 0) (.int .i64 0) (.int .i64 0) (.int .i64 0) (.int .i64 0)
                        rw [hw9]
                        clear hw9
                        refine bodyPost_ret (v := .tuple #[.agg #[.slice none 0 0, .int .i64 0, .int .i64 0, .int .i64 0, .int .i64 0, .int .i64 0, .int .i64 0], .bool false]) (results_row_tmp (fn := Tryz.f15) (p := 8) (ty := 57) rfl _ _ w.heap.size 57 _ (0, 0) _ rfl h9 Tryz.underlying57 rfl (by kernel_rfl)) rfl ?_
                        rw [HTT.out]
                        exact ⟨_, rfl, OwnL.nil _ _, hb9 _ _ HD8.out.bel (Nat.le_refl _)⟩
                      · have HFA := Lib.hid hfa
                        clear hfa
                        go_wp2_with fail
                        refine (rfits_any (nt - al) w8).mono ?_
                        rintro en9 w9 ⟨rfl, rfl⟩
                        cases hfn : fitsB (nt - al)
                        · have HTT : Hid (D = (grp0, false)) := Lib.hid (by rw [← HD.out]; exact HNO.out (fun h => by rw [HDM.out.2.1 HFA.out hfn] at h; cases h))
                          have HD8 := Lib.hid HQ1.out.ds
                          clear hfn
                          have hcz := blk_cells HD8.out.res
                          have hfz := blk_frz HD8.out.res
                          have hlz := blk_lt HD8.out.res
                          go_wp2_with fail
                          obtain ⟨w9, hw9, h9, hs9, hk9, hb9⟩ := seven _ w.heap.size HD8.out.res (.slice none 0 0) (.int .i64 0) (.int .i64 0) (.int .i64 0) (.int .i64 0) (.int .i64 0) (.int .i64 0)
                          rw [hw9]
                          clear hw9
                          refine bodyPost_ret (v := .tuple #[.agg #[.slice none 0 0, .int .i64 0, .int .i64 0, .int .i64 0, .int .i64 0, .int .i64 0, .int .i64 0], .bool false]) (results_row_tmp (fn := Tryz.f15) (p := 8) (ty := 57) rfl _ _ w.heap.size 57 _ (0, 0) _ rfl h9 Tryz.underlying57 rfl (by kernel_rfl)) rfl ?_
                          rw [HTT.out]
                          exact ⟨_, rfl, OwnL.nil _ _, hb9 _ _ HD8.out.bel (Nat.le_refl _)⟩
                        · obtain ⟨hme, hmp⟩ := HDM.out.2.2 HFA.out hfn
                          have HSX := Lib.hid (rscale_any (a := nt - al) (n := 10000 - m.sh) (d := 10000) w9 hfn hsh.1 (by omega) (by decide) (by decide))
                          obtain ⟨nn, hnn⟩ : ∃ t, nt - al = t := ⟨_, rfl⟩
                          rw [hnn] at HSX hme hmp hwr
                          obtain ⟨⟨xx, ex⟩, hxx⟩ : ∃ t, scaleT nn (10000 - m.sh) 10000 = t := ⟨_, rfl⟩
                          have hex := scaleT_err nn (10000 - m.sh) 10000
                          have hxf := scaleT_fitT (a := nn) (n := 10000 - m.sh) (d := 10000)
                          rw [hxx] at HSX hme hmp hex hxf
                          simp only at hme hmp hex hxf
                          have hxb : -1000000000000000 ≤ xx ∧ xx ≤ 1000000000000000 := by simpa [fitsB] using hxf
                          have HME := Lib.hid hme
                          have HMP := Lib.hid hmp
                          have hcb := blk_cells HQ1.out.mb
                          have hlb := blk_lt HQ1.out.mb
                          have hwsh : IntKind.i64.wrap (10000 - m.sh) = 10000 - m.sh := wrap_is (by omega) (by omega)
                          rw [hnn]
                          clear hfn hxf hxx hme hmp hnn HDM
                          go_wp2_with fail
                          refine HSX.out.mono ?_
                          rintro en10 w10 ⟨rfl, hb10⟩
                          have HD10 := Lib.hid (HQ1.out.ds.call hb10)
                          clear hb10 hcb hlb HSX HQ1
                          rcases hex with rfl | rfl
                          case inr =>
                            have HTT : Hid (D = (grp0, false)) := Lib.hid (by rw [← HD.out]; exact HNO.out (fun h => by rw [HME.out] at h; cases h))
                            have hcz := blk_cells HD10.out.res
                            have hfz := blk_frz HD10.out.res
                            have hlz := blk_lt HD10.out.res
                            go_wp2_with fail
                            obtain ⟨w9, hw9, h9, hs9, hk9, hb9⟩ := seven _ w.heap.size HD10.out.res (.slice none 0 0) (.int .i64 0) (.int .i64 0) (.int .i64 0) (.int .i64 0) (.int .i64 0) (.int .i64 0)
                            rw [hw9]
                            clear hw9
                            refine bodyPost_ret (v := .tuple #[.agg #[.slice none 0 0, .int .i64 0, .int .i64 0, .int .i64 0, .int .i64 0, .int .i64 0, .int .i64 0], .bool false]) (results_row_tmp (fn := Tryz.f15) (p := 8) (ty := 57) rfl _ _ w.heap.size 57 _ (0, 0) _ rfl h9 Tryz.underlying57 rfl (by kernel_rfl)) rfl ?_
                            rw [HTT.out]
                            exact ⟨_, rfl, OwnL.nil _ _, hb9 _ _ HD10.out.bel (Nat.le_refl _)⟩
                          case inl =>
                            have hab2 : -1000000000000000 ≤ al ∧ al ≤ 1000000000000000 := by have := HFA.out; simpa [fitsB] using this
                            obtain ⟨⟨b1, b1'⟩, ⟨b2, b2'⟩, b3, b3'⟩ := HB9.out
                            have hcr := blk_cells HD10.out.cell
                            have hfr := blk_frz HD10.out.cell
                            have hlr := blk_lt HD10.out.cell
                            have hw1 : IntKind.i64.wrap (pl - al) = pl - al := wrap_is (by omega) (by omega)
                            have hw2' : IntKind.i64.wrap (ou + o) = ou + o := wrap_is (by omega) (by omega)
                            have hw3 : IntKind.i64.wrap (ot + xx) = ot + xx := wrap_is (by omega) (by omega)
                            have HPN : Hid (DSt w (((w10.setCell ⟨w.heap.size + 1, 1, none⟩ (.int .i64 (pl - al))).setCell ⟨w.heap.size + 1, 2, none⟩ (.int .i64 (ou + o))).setCell ⟨w.heap.size + 1, 3, none⟩ (.int .i64 (ot + xx))) vL (refP (docX (prt r ms J p (n + 1)))) (sumI ((prt r ms J p (n + 1)).map (·.plug))) (sumI ((prt r ms J p (n + 1)).map (·.out))) (sumI ((prt r ms J p (n + 1)).map (·.oth))) (qSum (kB r [1]) (docX (prt r ms J p (n + 1)))) (-qSum (kB r [2]) (docX (prt r ms J p (n + 1)))) 0) := Lib.hid (by
                              obtain ⟨s1, s2, s3, s4, s5⟩ := HSUMS.out
                              rw [HPS.out, HMP.out, docX_snoc, sumI_mapsnoc, sumI_mapsnoc, sumI_mapsnoc, s2, s3, s4, s5]
                              simp only
                              rw [HQW.out.1, HQW.out.2, show pl + -al = pl - al by omega]
                              exact ((HD10.out.set1 _).set2 _).set3 _)
                            have HZN : Hid ((ms.take (n + 1)).all (fun m => memE r ms J p m == 0) = true) := Lib.hid (by rw [HAS.out, hz.out, HME.out]; rfl)
                            clear HPS HMP HME HAS HSUMS HNO HD10
                            go_wp2_with fail
                            go_roundw
                            case rel => exact ⟨n + 1, vL, by omega, by go_num, HPN.out, HZN⟩
                            case measure => simp [intOf]; omega
    · have HTL : Hid (ms.take n = ms) := Lib.hid (take_all hn hlt)
      have hd := HDR.out
      have hzz := hz.out
      have hpt : prt r ms J p n = ms.map (memP r ms J p) := by unfold prt; rw [HTL.out]
      have hXl := docX_bd (r := r) HV.out hJl hm9 (p := p) n hn
      have hpk := prt_ok r ms J p n
      rw [HTL.out] at hzz
      rw [hpt] at hd hXl hpk
      obtain ⟨PS, hPS⟩ : ∃ PS, ms.map (memP r ms J p) = PS := ⟨_, rfl⟩
      have hDD := HD.out
      unfold docT at hDD
      rw [hzz, Bool.true_and, hPS] at hDD
      rw [hPS] at hd hXl hpk
      have hpl9 : PS.length ≤ 9 := by rw [← hPS, List.length_map]; exact hm9
      have b1 := sum_bd9 (all_mapF (f := (·.plug)) fun q hq => (hpk q hq).plug) (by rw [List.length_map]; exact hpl9)
      have b2 := sum_bd9 (all_mapF (f := (·.out)) fun q hq => (hpk q hq).out) (by rw [List.length_map]; exact hpl9)
      have b3 := sum_bd9 (all_mapF (f := (·.oth)) fun q hq => (hpk q hq).oth) (by rw [List.length_map]; exact hpl9)
      have c1 := qSum_bd (kB r [1]) (docX PS) (docX_fit hpk)
      have c2 := qSum_bd (kB r [2]) (docX PS) (docX_fit hpk)
      have c3 := qSum_bd2 (kB r [1]) (kB r [2]) (fun k h => by
        rw [kB_kind r 1 k (by decide)] at h
        rw [kB_kind r 2 k (by decide)]
        have h1 : kindA r k = 1 := by simpa using h
        simp [h1]) (docX PS) (docX_fit hpk)
      have hrl2 : (refP (docX PS)).length ≤ 7200 := by have := refP_len (docX PS); omega
      unfold docF docG at hDD
      simp only at hDD
      obtain ⟨⟨PL, ok⟩, hPL⟩ : ∃ t, plainT (refP (docX PS)) = t := ⟨_, rfl⟩
      rw [hPL] at hDD
      generalize qSum (kB r [1]) (docX PS) = ow at *
      generalize sumI (PS.map (·.plug)) = pl at *
      generalize sumI (PS.map (·.out)) = ou at *
      generalize sumI (PS.map (·.oth)) = ot at *
      obtain ⟨od, hod⟩ : ∃ t, -qSum (kB r [2]) (docX PS) = t := ⟨_, rfl⟩
      rw [hod] at hDD hd
      obtain ⟨RR, hRR⟩ : ∃ t, refP (docX PS) = t := ⟨_, rfl⟩
      rw [hRR] at hd hrl2 hPL
      have hw1 : IntKind.i64.wrap (ow - od) = ow - od := wrap_is (by omega) (by omega)
      have hw2 : IntKind.i64.wrap (ow - od + ot) = ow - od + ot := wrap_is (by omega) (by omega)
      have d1 : -8000000000000000000 ≤ ow ∧ ow ≤ 8000000000000000000 := by omega
      have d2 : -8000000000000000000 ≤ od ∧ od ≤ 8000000000000000000 := by omega
      have d3 : -8000000000000000000 ≤ ow - od ∧ ow - od ≤ 8000000000000000000 := by omega
      have HDD := Lib.hid hDD
      obtain ⟨on, hon⟩ : ∃ t, ow - od + ot = t := ⟨_, rfl⟩
      have HON := Lib.hid hon
      have HPLE := Lib.hid hPL
      have HDF := Lib.hid hd
      have hcr := blk_cells hd.cell
      have hfr := blk_frz hd.cell
      have hlr := blk_lt hd.cell
      obtain ⟨oa, oc, rfl, _, _, _⟩ := hd.own.slice
      have HD6 : Hid (DSt w (wr.setCell ⟨w.heap.size + 1, 6, none⟩ (.int .i64 (ow - od + ot))) (.slice oa RR.length oc) RR pl ou ot ow od on) := Lib.hid (by have := HDF.out.set6 (ow - od + ot); rw [HON.out] at this ⊢; exact this)
      have HPLN := Lib.hid (r10Plain_any RR oa oc _ HD6.out.own.slice' (by omega))
      rw [HPLE.out] at HPLN
      clear hDD hd hzz hpt hpk hPS c1 c2 c3 hod hRR hXl HDR HD hon hPL HDF
      go_wp2_with fail
      refine HPLN.out.mono ?_
      rintro en3 w3 ⟨v3, rfl, ho3, hb3⟩
      obtain ⟨pa, pc, rfl, _, _, _⟩ := ho3.slice
      have HD7 := Lib.hid (HD6.out.call hb3)
      have HD9 : Hid (DSt w (w3.setCell ⟨w.heap.size + 1, 0, none⟩ (.slice pa PL.length pc)) (.slice pa PL.length pc) PL pl ou ot ow od on) := Lib.hid (HD6.out.putL hb3 ho3)
      clear ho3 hb3 HPLN HD6 hcr hfr hlr
      have hcr := blk_cells HD7.out.cell
      have hfr := blk_frz HD7.out.cell
      have hlr := blk_lt HD7.out.cell
      have hcr9 := blk_cells HD9.out.cell
      have hfr9 := blk_frz HD9.out.cell
      simp only
      cases ok
      case false =>
        have HTT : Hid (D = (grp0, false)) := Lib.hid (by rw [← HDD.out]; rfl)
        have hcz := blk_cells HD9.out.res
        have hfz := blk_frz HD9.out.res
        have hlz := blk_lt HD9.out.res
        go_wp2_with fail
        obtain ⟨w9, hw9, h9, hs9, hk9, hb9⟩ := seven _ w.heap.size HD9.out.res (.slice none 0 0) (.int .i64 0) (.int .i64 0) (.int .i64 0) (.int .i64 0) (.int .i64 0) (.int .i64 0)
        rw [hw9]
        clear hw9
        refine bodyPost_ret (v := .tuple #[.agg #[.slice none 0 0, .int .i64 0, .int .i64 0, .int .i64 0, .int .i64 0, .int .i64 0, .int .i64 0], .bool false]) (results_row_tmp (fn := Tryz.f15) (p := 8) (ty := 57) rfl _ _ w.heap.size 57 _ (0, 0) _ rfl h9 Tryz.underlying57 rfl (by kernel_rfl)) rfl ?_
        rw [HTT.out]
        exact ⟨_, rfl, OwnL.nil _ _, hb9 _ _ HD9.out.bel (Nat.le_refl _)⟩
      case true =>
        go_wp2_with fail
        obtain ⟨w9, hw9⟩ : ∃ x, w3.setCell ⟨w.heap.size + 1, 0, none⟩ (.slice pa PL.length pc) = x := ⟨_, rfl⟩
        rw [hw9] at HD9 hcr9 hfr9 ⊢
        have hlr9 := blk_lt HD9.out.cell
        clear hw9 hcr hfr hlr HD7
        refine (rfits_any pl w9).mono ?_
        rintro enpl wq0 ⟨rfl, hwq⟩
        obtain rfl := hwq.symm
        cases f0 : fitsB pl
        case false =>
          have HTT : Hid (D = (grp0, false)) := Lib.hid (by rw [← HDD.out]; simp [f0])
          clear f0
          have hcz := blk_cells HD9.out.res
          have hfz := blk_frz HD9.out.res
          have hlz := blk_lt HD9.out.res
          go_wp2_with fail
          obtain ⟨w9, hw9, h9, hs9, hk9, hb9⟩ := seven _ w.heap.size HD9.out.res (.slice none 0 0) (.int .i64 0) (.int .i64 0) (.int .i64 0) (.int .i64 0) (.int .i64 0) (.int .i64 0)
          rw [hw9]
          clear hw9
          refine bodyPost_ret (v := .tuple #[.agg #[.slice none 0 0, .int .i64 0, .int .i64 0, .int .i64 0, .int .i64 0, .int .i64 0, .int .i64 0], .bool false]) (results_row_tmp (fn := Tryz.f15) (p := 8) (ty := 57) rfl _ _ w.heap.size 57 _ (0, 0) _ rfl h9 Tryz.underlying57 rfl (by kernel_rfl)) rfl ?_
          rw [HTT.out]
          exact ⟨_, rfl, OwnL.nil _ _, hb9 _ _ HD9.out.bel (Nat.le_refl _)⟩
        case true =>
          have F0 := Lib.hid f0
          clear f0
          go_wp2_with fail
          refine (rfits_any ou w9).mono ?_
          rintro enou wq1 ⟨rfl, hwq⟩
          obtain rfl := hwq.symm
          cases f1 : fitsB ou
          case false =>
            have HTT : Hid (D = (grp0, false)) := Lib.hid (by rw [← HDD.out]; simp [f1])
            clear f1
            have hcz := blk_cells HD9.out.res
            have hfz := blk_frz HD9.out.res
            have hlz := blk_lt HD9.out.res
            go_wp2_with fail
            obtain ⟨w9, hw9, h9, hs9, hk9, hb9⟩ := seven _ w.heap.size HD9.out.res (.slice none 0 0) (.int .i64 0) (.int .i64 0) (.int .i64 0) (.int .i64 0) (.int .i64 0) (.int .i64 0)
            rw [hw9]
            clear hw9
            refine bodyPost_ret (v := .tuple #[.agg #[.slice none 0 0, .int .i64 0, .int .i64 0, .int .i64 0, .int .i64 0, .int .i64 0, .int .i64 0], .bool false]) (results_row_tmp (fn := Tryz.f15) (p := 8) (ty := 57) rfl _ _ w.heap.size 57 _ (0, 0) _ rfl h9 Tryz.underlying57 rfl (by kernel_rfl)) rfl ?_
            rw [HTT.out]
            exact ⟨_, rfl, OwnL.nil _ _, hb9 _ _ HD9.out.bel (Nat.le_refl _)⟩
          case true =>
            have F1 := Lib.hid f1
            clear f1
            go_wp2_with fail
            refine (rfits_any ot w9).mono ?_
            rintro enot wq2 ⟨rfl, hwq⟩
            obtain rfl := hwq.symm
            cases f2 : fitsB ot
            case false =>
              have HTT : Hid (D = (grp0, false)) := Lib.hid (by rw [← HDD.out]; simp [f2])
              clear f2
              have hcz := blk_cells HD9.out.res
              have hfz := blk_frz HD9.out.res
              have hlz := blk_lt HD9.out.res
              go_wp2_with fail
              obtain ⟨w9, hw9, h9, hs9, hk9, hb9⟩ := seven _ w.heap.size HD9.out.res (.slice none 0 0) (.int .i64 0) (.int .i64 0) (.int .i64 0) (.int .i64 0) (.int .i64 0) (.int .i64 0)
              rw [hw9]
              clear hw9
              refine bodyPost_ret (v := .tuple #[.agg #[.slice none 0 0, .int .i64 0, .int .i64 0, .int .i64 0, .int .i64 0, .int .i64 0, .int .i64 0], .bool false]) (results_row_tmp (fn := Tryz.f15) (p := 8) (ty := 57) rfl _ _ w.heap.size 57 _ (0, 0) _ rfl h9 Tryz.underlying57 rfl (by kernel_rfl)) rfl ?_
              rw [HTT.out]
              exact ⟨_, rfl, OwnL.nil _ _, hb9 _ _ HD9.out.bel (Nat.le_refl _)⟩
            case true =>
              have F2 := Lib.hid f2
              clear f2
              go_wp2_with fail
              refine (rfits_any ow w9).mono ?_
              rintro enow wq3 ⟨rfl, hwq⟩
              obtain rfl := hwq.symm
              cases f3 : fitsB ow
              case false =>
                have HTT : Hid (D = (grp0, false)) := Lib.hid (by rw [← HDD.out]; simp [f3])
                clear f3
                have hcz := blk_cells HD9.out.res
                have hfz := blk_frz HD9.out.res
                have hlz := blk_lt HD9.out.res
                go_wp2_with fail
                obtain ⟨w9, hw9, h9, hs9, hk9, hb9⟩ := seven _ w.heap.size HD9.out.res (.slice none 0 0) (.int .i64 0) (.int .i64 0) (.int .i64 0) (.int .i64 0) (.int .i64 0) (.int .i64 0)
                rw [hw9]
                clear hw9
                refine bodyPost_ret (v := .tuple #[.agg #[.slice none 0 0, .int .i64 0, .int .i64 0, .int .i64 0, .int .i64 0, .int .i64 0, .int .i64 0], .bool false]) (results_row_tmp (fn := Tryz.f15) (p := 8) (ty := 57) rfl _ _ w.heap.size 57 _ (0, 0) _ rfl h9 Tryz.underlying57 rfl (by kernel_rfl)) rfl ?_
                rw [HTT.out]
                exact ⟨_, rfl, OwnL.nil _ _, hb9 _ _ HD9.out.bel (Nat.le_refl _)⟩
              case true =>
                have F3 := Lib.hid f3
                clear f3
                go_wp2_with fail
                refine (rfits_any od w9).mono ?_
                rintro enod wq4 ⟨rfl, hwq⟩
                obtain rfl := hwq.symm
                cases f4 : fitsB od
                case false =>
                  have HTT : Hid (D = (grp0, false)) := Lib.hid (by rw [← HDD.out]; simp [f4])
                  clear f4
                  have hcz := blk_cells HD9.out.res
                  have hfz := blk_frz HD9.out.res
                  have hlz := blk_lt HD9.out.res
                  go_wp2_with fail
                  obtain ⟨w9, hw9, h9, hs9, hk9, hb9⟩ := seven _ w.heap.size HD9.out.res (.slice none 0 0) (.int .i64 0) (.int .i64 0) (.int .i64 0) (.int .i64 0) (.int .i64 0) (.int .i64 0)
                  rw [hw9]
                  clear hw9
                  refine bodyPost_ret (v := .tuple #[.agg #[.slice none 0 0, .int .i64 0, .int .i64 0, .int .i64 0, .int .i64 0, .int .i64 0, .int .i64 0], .bool false]) (results_row_tmp (fn := Tryz.f15) (p := 8) (ty := 57) rfl _ _ w.heap.size 57 _ (0, 0) _ rfl h9 Tryz.underlying57 rfl (by kernel_rfl)) rfl ?_
                  rw [HTT.out]
                  exact ⟨_, rfl, OwnL.nil _ _, hb9 _ _ HD9.out.bel (Nat.le_refl _)⟩
                case true =>
                  have F4 := Lib.hid f4
                  clear f4
                  go_wp2_with fail
                  refine (rfits_any on w9).mono ?_
                  rintro enon wq5 ⟨rfl, hwq⟩
                  obtain rfl := hwq.symm
                  cases f5 : fitsB on
                  case false =>
                    have HTT : Hid (D = (grp0, false)) := Lib.hid (by rw [← HDD.out]; simp [HON.out, f5])
                    clear f5
                    have hcz := blk_cells HD9.out.res
                    have hfz := blk_frz HD9.out.res
                    have hlz := blk_lt HD9.out.res
                    go_wp2_with fail
                    obtain ⟨w9, hw9, h9, hs9, hk9, hb9⟩ := seven _ w.heap.size HD9.out.res (.slice none 0 0) (.int .i64 0) (.int .i64 0) (.int .i64 0) (.int .i64 0) (.int .i64 0) (.int .i64 0)
                    rw [hw9]
                    clear hw9
                    refine bodyPost_ret (v := .tuple #[.agg #[.slice none 0 0, .int .i64 0, .int .i64 0, .int .i64 0, .int .i64 0, .int .i64 0, .int .i64 0], .bool false]) (results_row_tmp (fn := Tryz.f15) (p := 8) (ty := 57) rfl _ _ w.heap.size 57 _ (0, 0) _ rfl h9 Tryz.underlying57 rfl (by kernel_rfl)) rfl ?_
                    rw [HTT.out]
                    exact ⟨_, rfl, OwnL.nil _ _, hb9 _ _ HD9.out.bel (Nat.le_refl _)⟩
                  case true =>
                    have F5 := Lib.hid f5
                    clear f5
                    have HTT : Hid (D = (⟨PL, pl, ou, ot, ow, od, on⟩, true)) := Lib.hid (by rw [← HDD.out]; simp [F0.out, F1.out, F2.out, F3.out, F4.out, HON.out, F5.out])
                    have hcz := blk_cells HD9.out.res
                    have hfz := blk_frz HD9.out.res
                    have hlz := blk_lt HD9.out.res
                    go_wp2_with fail
                    obtain ⟨wz, hwz, hz9, hs9, hk9, hb9⟩ := seven _ w.heap.size HD9.out.res (.slice pa PL.length pc) (.int .i64 pl) (.int .i64 ou) (.int .i64 ot) (.int .i64 ow) (.int .i64 od) (.int .i64 on)
                    rw [hwz]
                    clear hwz
                    refine bodyPost_ret (v := .tuple #[.agg #[.slice pa PL.length pc, .int .i64 pl, .int .i64 ou, .int .i64 ot, .int .i64 ow, .int .i64 od, .int .i64 on], .bool true]) (results_row_tmp (fn := Tryz.f15) (p := 8) (ty := 57) rfl _ _ w.heap.size 57 _ (0, 0) _ rfl hz9 Tryz.underlying57 rfl (by kernel_rfl)) rfl ?_
                    rw [HTT.out]
                    exact ⟨_, rfl, (HD9.out.own.keepF bal_Free (fun k hk => hk9 k (by have := (HD9.out.own.lt k hk).1; omega))).mono (by omega), hb9 _ _ HD9.out.bel (Nat.le_refl _)⟩
end Go.Proofs.YtgggpaacagbmcaaGreat
