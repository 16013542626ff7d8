/- GroupInner: what two members have with each other, and that does not come to 0: pair by pair. -/
import Derived.Test.YtgggpaacagbmcaaGreatX44GroupInner
import Derived.Test.YtgggpaacagbmcaaGreatX46GroupInner
import Derived.Test.YtgggpaacagbmcaaGreatX47GroupInner
import Derived.Test.YtgggpaacagbmcaaGreatX41GroupInner
import Derived.Test.YtgggpaacagbmcaaGreatX29GroupInner
import Derived.Deep.RegionHeld3
set_option linter.unusedVariables false
set_option linter.unusedSimpArgs false
namespace Go.Proofs.YtgggpaacagbmcaaGreat
open Go.RowKit Go.Maps Go.Deep

theorem withE_one (e : Int) (x : Ln) : withE e [x] = if x.par = e then x.amt else 0 := by
  unfold withE
  by_cases h : x.par = e
  · simp [h, sumA]
  · simp [h, sumA]
theorem withE_bd (e : Int) (ls : List Ln) (h : ∀ x ∈ ls, -1000000000000000 ≤ x.amt ∧ x.amt ≤ 1000000000000000) : -(1000000000000000 * (ls.length : Int)) ≤ withE e ls ∧ withE e ls ≤ 1000000000000000 * (ls.length : Int) := by
  have h1 := sumA_bd (ls.filter (fun x => x.par == e)) (fun x hx => h x (List.mem_filter.1 hx).1)
  have h2 := List.length_filter_le (fun x : Ln => x.par == e) ls
  unfold withE
  omega
theorem linesK_len {J : List Jn} (hV : ValJ J) (hl : J.length ≤ 100) (e p : Int) : (linesOf J e 0 p).length ≤ 800 := by
  unfold linesOf
  have z1 := flat8 (l := J.filter (cnt e 0 p)) (fun x hx => hV.good x (List.mem_filter.1 hx).1)
  have z2 := List.length_filter_le (cnt e 0 p) J
  omega
theorem prs_len : ∀ ms : List Mb, (prs ms).length ≤ ms.length * ms.length
  | [] => by simp [prs]
  | m :: r => by
    have ih := prs_len r
    unfold prs
    rw [List.length_append, List.length_map, List.length_cons, Nat.add_mul, Nat.mul_add]
    omega
theorem trioD_len (p : Int) (J : List Jn) : ∀ l : List (Int × Int), (l.flatMap (trioD p J)).length ≤ l.length
  | [] => by simp
  | x :: r => by
    have ih := trioD_len p J r
    rw [List.flatMap_cons, List.length_append, List.length_cons]
    have : (trioD p J x).length ≤ 1 := by unfold trioD; split <;> simp
    omega
theorem trioD_one (p : Int) (J : List Jn) (D : List (Int × Int)) (k : Int × Int) {v : Int} (hv : docS p J k = v) : (D ++ [k]).flatMap (trioD p J) = D.flatMap (trioD p J) ++ (if v == 0 then [] else [(k.1, k.2, v)]) := by
  rw [List.flatMap_append, ← hv]
  simp [trioD]
theorem docI_bad {ms : List Mb} {p : Int} {J : List Jn} {A B : List (Int × Int)} {k : Int × Int} (h : prs ms = A ++ (k :: B)) (hf : fitsB (docS p J k) = false) : docI ms p J = ([], 2) := by
  have : (prs ms).all (fun k => fitsB (docS p J k)) = false := by
    rw [List.all_eq_false]
    exact ⟨k, by rw [h]; simp, by simp [hf]⟩
  unfold docI
  rw [this]
  rfl
/-- the lines of two entities -/
structure LinF (w w' : World) (J : List Jn) (p e f : Int) (la lb : Option Addr) : Prop where
  bel : Below w.heap.size w w'
  one : Sl tLn w' (fun _ => True) la (linesOf J e 0 p)
  two : Sl tLn w' (fun _ => True) lb (linesOf J f 0 p)

set_option maxHeartbeats 16000000 in
set_option maxRecDepth 100000 in
theorem groupInner_any (l : List Jn) (la : Option Addr) (lc : Nat) (p : Int) (hpi : I64 p) (ms : List Mb) (ma : Option Addr) (mc : Nat) (w : World) {F G : Nat → Prop} (ht : Sl tJn w F la l) (hm : l.length ≤ maxLen) (hmb : Sl tMb w G ma ms) (hml : ms.length ≤ maxLen) :
    Calls Tryz.prog 4 #[.slice la l.length lc, .int .i64 p, .slice ma ms.length mc] w fun en w' => en = .returned (.bool true) ∧ Below w.heap.size w w' := by
  have HTJ := Lib.hid ht
  have HMB := Lib.hid hmb
  have HPI := Lib.hid hpi
  have hml' : ms.length ≤ 9223372036854775807 := by unfold maxLen at hml; omega
  clear ht hpi hmb
  go_enter Tryz.func4, Tryz.ntmps4
  go_wp2_with fail
  refine (few_any l la lc 40 _ HTJ.out hm (by omega)).mono ?_
  rintro en w1 ⟨b, rfl, _, hb⟩
  have HB1 := Lib.hid hb
  clear hb
  cases b
  · skip
    go_wp2_with fail
    refine (alive14 w1).mono ?_
    rintro en w2 ⟨rfl, hb⟩
    have HB2 := Lib.hid (belows_then HB1.out HB1.out.size hb)
    clear hb
    go_wp2_with fail
    go_ret
    exact ⟨rfl, HB2.out⟩
  rcases (show 15 < ms.length ∨ ms.length ≤ 15 by omega) with h15 | h15
  · skip
    go_wp2_with fail
    refine (alive14 w1).mono ?_
    rintro en w2 ⟨rfl, hb⟩
    have HB2 := Lib.hid (belows_then HB1.out HB1.out.size hb)
    clear hb
    go_wp2_with fail
    go_ret
    exact ⟨rfl, HB2.out⟩
  · go_wp2_with fail
    refine (alive14 w1).mono ?_
    rintro en w2 ⟨rfl, hb⟩
    have HB2 := Lib.hid (belows_then HB1.out HB1.out.size hb)
    clear hb HB1
    go_wp2_with fail
    refine (set_any [] none 0 l la lc w2 (F := fun _ => True) (fun i x hx => by simp at hx) (by simp) (Sl.keep (fun k hk _ => HB2.out.block k hk) HTJ.out) hm).mono ?_
    rintro en w3 ⟨c, g, xa, fa, ga, xc, fc, gc, mb, rfl, _, hg, _, hfa, hb⟩
    have HB3 := Lib.hid (belows_then HB2.out HB2.out.size hb)
    have HV := Lib.hid (fit_val 40 l)
    have hJl : (fitJ 40 l).length ≤ 40 := fitJ_len 40 l [] (by simp)
    generalize fitJ 40 l = J at *
    have HG3 := Lib.hid hg
    have HFA3 := Lib.hid hfa
    have HM3 := Lib.hid (Sl.keep (fun k hk _ => HB3.out.block k hk) HMB.out)
    clear hg hfa hb HB2 HTJ HMB
    have hcs : (grpB ms = true ∧ monthOk p = true) ∨ (grpB ms = false ∨ monthOk p = false) := by cases grpB ms <;> cases monthOk p <;> simp
    rcases hcs with ⟨hgb, hmo⟩ | hbad
    · have HIN := Lib.hid (grInner_doc (mc := mc) hgb hmo HPI.out HM3.out HG3.out (by omega) HV.out)
      go_wp2_with fail
      refine HIN.out.mono ?_
      rintro en w4 ⟨v4, rfl, ho, hb⟩
      obtain ⟨xa4, xc4, rfl, _, _, hs4⟩ := ho.slice
      have HX4 := Lib.hid hs4
      have HB4 := Lib.hid hb
      clear ho hs4 hb HIN
      go_wp2_with fail
      refine (refs_any ms ma mc w4 (Sl.keep (fun k hk _ => HB4.out.block k hk) HM3.out) (by omega)).mono ?_
      rintro en w5 ⟨v, rfl, ho, hb⟩
      obtain ⟨qa, qc, rfl, _, _, hq⟩ := ho.slice
      have HQ5 := Lib.hid hq
      have HB5 := Lib.hid (belows_then HB4.out HB4.out.size hb)
      have HX5 := Lib.hid (Sl.keep (fun k hk _ => hb.block k hk) HX4.out)
      clear ho hq hb HB4 HX4
      have HCK := Lib.hid (r10Check_any ms qa qc w5 HQ5.out hml)
      rw [hgb] at HCK
      go_wp2_with fail
      refine HCK.out.mono ?_
      rintro en w6 ⟨rfl, hb⟩
      have HB6 := Lib.hid (belows_then HB5.out HB5.out.size hb)
      have HX6 := Lib.hid (Sl.keep (fun k hk _ => hb.block k hk) HX5.out)
      clear hb HB5 HX5 HQ5 HCK
      go_wp2_with fail
      refine (ref_valid_is p hmo w6).mono ?_
      rintro en w7 ⟨rfl, hb⟩
      have HB7 := Lib.hid (belows_then HB6.out HB6.out.size hb)
      have HX7 := Lib.hid (Sl.keep (fun k hk _ => hb.block k hk) HX6.out)
      have HG7 := Lib.hid hgb
      clear hb HB6 HX6 hmo hgb
      have HBF : Hid (Below w3.heap.size w3 w7) := HB7
      have hm9 : ms.length ≤ 9 := grpQ_len HG7.out
      go_wp2_with fail
      go_loopw [14, 15, 16, 17, 18, 19, 20, 21] (fun v14 v15 v16 v17 v18 v19 v20 v21 wr => ∃ (i : Nat) (vx : Value) (D : List (Int × Int)), vx = v14 ∧ i ≤ ms.length ∧ v15 = .int .i64 i ∧ Hid (prs ms = D ++ prs (ms.drop i)) ∧ Hid (D.all (fun k => fitsB (docS p J k)) = true) ∧ OwnL tA3 wr w7.heap.size vx (D.flatMap (trioD p J)) ∧ Below w7.heap.size w7 wr) (fun _ v15 _ _ _ _ _ _ _ => ms.length - (Go.RowKit.intOf v15).toNat)
      case atStart => exact ⟨0, _, [], rfl, Nat.zero_le _, rfl, Lib.hid (by simp), Lib.hid rfl, OwnL.nil _ _, Below.refl _ _⟩
      case round =>
        obtain ⟨i, vo, D, rfl, hi, rfl, hpr, hfit, ho, hb⟩ := hrel
        have HO := Lib.hid ho
        have HBR := Lib.hid hb
        clear ho hb
        by_cases hlt : i < ms.length
        · have HDI := Lib.hid (List.drop_eq_getElem_cons hlt)
          go_wp2_with fail
          go_loopw [14, 16, 17, 18, 19, 20, 21] (fun v14 v16 v17 v18 v19 v20 v21 wr => ∃ (k : Nat) (vx : Value) (D : List (Int × Int)), vx = v14 ∧ i + 1 ≤ k ∧ k ≤ ms.length ∧ v16 = .int .i64 k ∧ Hid (prs ms = D ++ ((ms.drop k).map (fun x => (ms[i].en, x.en)) ++ prs (ms.drop (i + 1)))) ∧ Hid (D.all (fun k => fitsB (docS p J k)) = true) ∧ OwnL tA3 wr w7.heap.size vx (D.flatMap (trioD p J)) ∧ Below w7.heap.size w7 wr) (fun _ v16 _ _ _ _ _ _ => ms.length - (Go.RowKit.intOf v16).toNat)
          case atStart => exact ⟨i + 1, _, D, rfl, Nat.le_refl _, by omega, by go_num, Lib.hid (by rw [hpr.out, HDI.out]; rfl), hfit, HO.out, HBR.out⟩
          case round =>
            obtain ⟨k, vo2, D2, rfl, hk1, hk2, rfl, hpr2, hfit2, ho2, hb2⟩ := hrel
            have HO2 := Lib.hid ho2
            have HBR2 := Lib.hid hb2
            clear ho2 hb2 HO HBR
            by_cases hlk : k < ms.length
            · have hb37 := belows_then HBF.out HBF.out.size HBR2.out
              have HMR : Hid (Sl tMb wr (fun _ => True) ma ms) := Lib.hid (Sl.mono (fun _ _ _ => trivial) (Sl.keep (fun k hk _ => hb37.block k hk) HM3.out))
              have HFR := Lib.hid (Sl.keep (fun k hk _ => hb37.block k hk) HFA3.out)
              obtain ⟨ad, rfl, _, hadl, hc0, -, -, -, -, hwfi⟩ := mb_at HMR.out i hlt
              obtain ⟨ad2, he2, _, _, hd0, -, -, -, -, hwfk⟩ := mb_at HMR.out k hlk
              obtain rfl : ad = ad2 := by simpa using he2
              obtain ⟨ad0, he0, _, hadl0, -⟩ := mb_at HM3.out i hlt
              obtain rfl : ad = ad0 := by simpa using he0
              have HAB : Hid (ad.block < w7.heap.size) := Lib.hid (Nat.lt_of_lt_of_le hadl0 HBF.out.size)
              have HDK := Lib.hid (List.drop_eq_getElem_cons hlk)
              have HLN : Hid (∀ (e : Int) (W : World), Below wr.heap.size wr W → Calls Tryz.prog 19 #[.slice fa J.length fc, .int .i64 e, .int .i64 0, .int .i64 p] W fun en w' => ∃ v, en = .returned v ∧ OwnL tLn w' W.heap.size v (linesOf J e 0 p) ∧ Below W.heap.size W w') := Lib.hid (fun e W hb => r10Lines_any J fa fc e 0 p W (Sl.keep (fun k hk _ => hb.block k hk) HFR.out) HV.out.good (by omega))
              obtain ⟨ei, hei⟩ : ∃ e, ms[i].en = e := ⟨_, rfl⟩
              obtain ⟨ek, hek⟩ : ∃ e, ms[k].en = e := ⟨_, rfl⟩
              rw [hei] at hc0 hpr2
              rw [hek] at hd0
              have HLI := Lib.hid (HLN.out ei)
              have HLK := Lib.hid (HLN.out ek)
              have HCE : Hid (∀ W, Below wr.heap.size wr W → (W.cell? (ad.add (i * 5)) = some (.int .i64 ei) ∧ W.cell? (ad.add (k * 5)) = some (.int .i64 ek))) := Lib.hid (fun W hb => ⟨by rw [← hc0]; exact World.cell?_of_block (w := wr) (by rw [add_block]; exact hb.block _ hadl), by rw [← hd0]; exact World.cell?_of_block (w := wr) (by rw [add_block]; exact hb.block _ hadl)⟩)
              have HBD : Hid (Below wr.heap.size wr wr.drew) := Lib.hid (Below.drew (Below.refl _ _))
              have HEI := Lib.hid hei
              have HEK := Lib.hid hek
              have HII : Hid (I64 ei ∧ I64 ek) := Lib.hid ⟨by rw [← hei]; exact hwfi.1, by rw [← hek]; exact hwfk.1⟩
              clear hei hek hc0 hd0 he2 he0 hb37 HLN hadl hadl0 hwfi hwfk
              go_wp2_with fail
              refine (fun (key : ∀ (wz : World) (la : Option Addr) (lc : Nat) (lb : Option Addr) (ld : Nat), LinF wr wz J p ei ek la lb → (?G7 : World → Option Addr → Nat → Option Addr → Nat → Prop) wz la lc lb ld) => ?main7) ?kp7
              case main7 =>
                go_region_held3 (fun w' => w'.cell? (ad.add (i * 5)) = some (.int .i64 ei) ∧ w'.cell? (ad.add (k * 5)) = some (.int .i64 ek)) (first | with_reducible exact HCE.out _ HBC.out | with_reducible exact HCE.out _ HBA.out | with_reducible exact HCE.out _ HBB.out | with_reducible exact HCE.out _ HBD.out) (first
                  | (go_at_call 19; refine (HLK.out _ HBA.out).mono ?_; rintro enB wz ⟨vB, rfl, hoB, hbB⟩; have HBC : Hid (Below wr.heap.size wr wz) := Lib.hid (belows_then HBA.out HBA.out.size hbB); obtain ⟨lb, ld, rfl, _, _, hsB⟩ := hoB.slice; have HF : Hid (LinF wr wz J p ei ek la lb) := Lib.hid ⟨HBC.out, Sl.keep (fun k hk _ => hbB.block k hk) HSA.out, hsB⟩; clear hoB hbB hsB)
                  | (go_at_call 19; refine (HLI.out _ HBB.out).mono ?_; rintro enA wz ⟨vA, rfl, hoA, hbA⟩; have HBC : Hid (Below wr.heap.size wr wz) := Lib.hid (belows_then HBB.out HBB.out.size hbA); obtain ⟨la, lc, rfl, _, _, hsA⟩ := hoA.slice; have HF : Hid (LinF wr wz J p ei ek la lb) := Lib.hid ⟨HBC.out, hsA, Sl.keep (fun k hk _ => hbA.block k hk) HSB.out⟩; clear hoA hbA hsA)
                  | (go_at_call 19; refine (HLI.out _ HBD.out).mono ?_; rintro enA wA ⟨vA, rfl, hoA, hbA⟩; have HBA : Hid (Below wr.heap.size wr wA) := Lib.hid (belows_then HBD.out HBD.out.size hbA); obtain ⟨la, lc, rfl, _, _, hsA⟩ := hoA.slice; have HSA := Lib.hid hsA; clear hoA hbA hsA)
                  | (go_at_call 19; refine (HLK.out _ HBD.out).mono ?_; rintro enB wB ⟨vB, rfl, hoB, hbB⟩; have HBB : Hid (Below wr.heap.size wr wB) := Lib.hid (belows_then HBD.out HBD.out.size hbB); obtain ⟨lb, ld, rfl, _, _, hsB⟩ := hoB.slice; have HSB := Lib.hid hsB; clear hoB hbB hsB))
                all_goals exact key wz la lc lb ld HF.out
              case kp7 =>
                intro wz la lc lb ld hF
                have HLA := Lib.hid (linesOf_amt HV.out ei 0 p)
                have HLB := Lib.hid (linesOf_amt HV.out ek 0 p)
                have hla := linesK_len HV.out (by omega : J.length ≤ 100) ei p
                have hlb := linesK_len HV.out (by omega : J.length ≤ 100) ek p
                have HDS : Hid (docS p J (ei, ek) = withE ek (linesOf J ei 0 p) + withE ei (linesOf J ek 0 p)) := Lib.hid rfl
                have HS1 := Lib.hid hF.one
                have HS2 := Lib.hid hF.two
                have HBZ := Lib.hid hF.bel
                clear hF HLI HLK HBD
                obtain ⟨LA, hLA⟩ : ∃ L, linesOf J ei 0 p = L := ⟨_, rfl⟩
                obtain ⟨LB, hLB⟩ : ∃ L, linesOf J ek 0 p = L := ⟨_, rfl⟩
                rw [hLA] at HLA hla HS1
                rw [hLB] at HLB hlb HS2
                rw [hLA, hLB] at HDS ⊢
                clear hLA hLB
                have hla' : LA.length ≤ 9223372036854775807 := by omega
                have hlb' : LB.length ≤ 9223372036854775807 := by omega
                go_wp2_with fail
                go_loopw [17, 20] (fun v17 v20 wr => ∃ n : Nat, n ≤ LA.length ∧ v20 = .int .i64 n ∧ v17 = .int .i64 (withE ek (LA.take n)) ∧ Below wz.heap.size wz wr) (fun _ v20 _ => LA.length - (Go.RowKit.intOf v20).toNat)
                case atStart => exact ⟨0, Nat.zero_le _, rfl, rfl, Below.refl _ _⟩
                case round =>
                  obtain ⟨n, hn, rfl, rfl, hb⟩ := hrel
                  have HBQ := Lib.hid hb
                  clear hb
                  by_cases hln : n < LA.length
                  · obtain ⟨ad3, rfl, _, hadl3, hq0, hq1, hq2, _⟩ := ln_at (Sl.keep (fun k hk _ => HBQ.out.block k hk) HS1.out) n hln
                    have hts := List.take_succ_eq_append_getElem hln
                    have hmx := HLA.out _ (List.getElem_mem hln)
                    have hwb := withE_bd ek (LA.take n) (fun x hx => HLA.out x (List.mem_of_mem_take hx))
                    have hwl : (LA.take n).length ≤ 800 := by rw [List.length_take]; omega
                    obtain ⟨x, hx⟩ : ∃ x, LA[n] = x := ⟨_, rfl⟩
                    rw [hx] at hq0 hq1 hq2 hts hmx
                    have HWS : Hid (withE ek (LA.take (n + 1)) = withE ek (LA.take n) + (if x.par = ek then x.amt else 0)) := Lib.hid (by rw [hts, withE_app, withE_one])
                    obtain ⟨S, hS⟩ : ∃ S, withE ek (LA.take n) = S := ⟨_, rfl⟩
                    rw [hS] at hwb HWS
                    rw [hS]
                    have hsb : -800000000000000000 ≤ S ∧ S ≤ 800000000000000000 := by omega
                    obtain ⟨hz1, hz2⟩ := HCE.out _ (belows_then HBZ.out HBZ.out.size HBQ.out)
                    clear hts hx hwb hwl hS hq0 hz1
                    by_cases hp : x.par = ek
                    · have hp' : (x.par == ek) = true := by simpa using hp
                      have HN : Hid (withE ek (LA.take (n + 1)) = S + x.amt) := Lib.hid (by rw [HWS.out, if_pos hp])
                      clear hp
                      go_wp2_with fail
                      go_quiet (fail)
                      go_wp2_with fail
                      go_roundw
                      case rel => exact ⟨n + 1, by omega, by go_num, by rw [HN.out], below_drewN HBQ.out _⟩
                      case measure => simp [Go.RowKit.intOf]; omega
                    · have hp' : (x.par == ek) = false := by simpa using hp
                      have HN : Hid (withE ek (LA.take (n + 1)) = S) := Lib.hid (by rw [HWS.out, if_neg hp]; omega)
                      clear hp
                      go_wp2_with fail
                      go_quiet (fail)
                      go_wp2_with fail
                      go_roundw
                      case rel => exact ⟨n + 1, by omega, by go_num, by rw [HN.out], below_drewN HBQ.out _⟩
                      case measure => simp [Go.RowKit.intOf]; omega
                  · have HT1 : Hid (withE ek (LA.take n) = withE ek LA) := Lib.hid (by rw [List.take_of_length_le (by omega)])
                    rw [HT1.out]
                    have hw1 := withE_bd ek LA HLA.out
                    obtain ⟨S1, hS1⟩ : ∃ S, withE ek LA = S := ⟨_, rfl⟩
                    rw [hS1] at hw1 HDS ⊢
                    have hsb1 : -800000000000000000 ≤ S1 ∧ S1 ≤ 800000000000000000 := by omega
                    clear HT1 hS1 hw1 HLA
                    go_wp2_with fail
                    go_loopw [17, 21] (fun v17 v21 wr => ∃ n : Nat, n ≤ LB.length ∧ v21 = .int .i64 n ∧ v17 = .int .i64 (S1 + withE ei (LB.take n)) ∧ Below wz.heap.size wz wr) (fun _ v21 _ => LB.length - (Go.RowKit.intOf v21).toNat)
                    case atStart => exact ⟨0, Nat.zero_le _, rfl, by simp [withE, sumA], HBQ.out⟩
                    case round =>
                      clear HBQ hn hln
                      obtain ⟨n, hn, rfl, rfl, hb⟩ := hrel
                      have HBQ := Lib.hid hb
                      clear hb
                      by_cases hln : n < LB.length
                      · obtain ⟨ad3, rfl, _, hadl3, hq0, hq1, hq2, _⟩ := ln_at (Sl.keep (fun k hk _ => HBQ.out.block k hk) HS2.out) n hln
                        have hts := List.take_succ_eq_append_getElem hln
                        have hmx := HLB.out _ (List.getElem_mem hln)
                        have hwb := withE_bd ei (LB.take n) (fun x hx => HLB.out x (List.mem_of_mem_take hx))
                        have hwl : (LB.take n).length ≤ 800 := by rw [List.length_take]; omega
                        obtain ⟨x, hx⟩ : ∃ x, LB[n] = x := ⟨_, rfl⟩
                        rw [hx] at hq0 hq1 hq2 hts hmx
                        have HWS : Hid (S1 + withE ei (LB.take (n + 1)) = S1 + withE ei (LB.take n) + (if x.par = ei then x.amt else 0)) := Lib.hid (by rw [hts, withE_app, withE_one]; omega)
                        obtain ⟨S, hS⟩ : ∃ S, S1 + withE ei (LB.take n) = S := ⟨_, rfl⟩
                        rw [hS] at HWS
                        rw [hS]
                        have hsb : -1600000000000000000 ≤ S ∧ S ≤ 1600000000000000000 := by omega
                        obtain ⟨hz1, hz2⟩ := HCE.out _ (belows_then HBZ.out HBZ.out.size HBQ.out)
                        clear hts hx hwb hwl hS hq0 hz2
                        by_cases hp : x.par = ei
                        · have hp' : (x.par == ei) = true := by simpa using hp
                          have HN : Hid (S1 + withE ei (LB.take (n + 1)) = S + x.amt) := Lib.hid (by rw [HWS.out, if_pos hp])
                          clear hp
                          go_wp2_with fail
                          go_quiet (fail)
                          go_wp2_with fail
                          go_roundw
                          case rel => exact ⟨n + 1, by omega, by go_num, by rw [HN.out], below_drewN HBQ.out _⟩
                          case measure => simp [Go.RowKit.intOf]; omega
                        · have hp' : (x.par == ei) = false := by simpa using hp
                          have HN : Hid (S1 + withE ei (LB.take (n + 1)) = S) := Lib.hid (by rw [HWS.out, if_neg hp]; omega)
                          clear hp
                          go_wp2_with fail
                          go_quiet (fail)
                          go_wp2_with fail
                          go_roundw
                          case rel => exact ⟨n + 1, by omega, by go_num, by rw [HN.out], below_drewN HBQ.out _⟩
                          case measure => simp [Go.RowKit.intOf]; omega
                      · have HT2 : Hid (withE ei (LB.take n) = withE ei LB) := Lib.hid (by rw [List.take_of_length_le (by omega)])
                        rw [HT2.out]
                        have hw2 := withE_bd ei LB HLB.out
                        obtain ⟨S2, hS2⟩ : ∃ S, withE ei LB = S := ⟨_, rfl⟩
                        rw [hS2] at hw2 HDS ⊢
                        obtain ⟨DS, hDS⟩ : ∃ S, S1 + S2 = S := ⟨_, rfl⟩
                        rw [hDS] at HDS ⊢
                        have HF1 := Lib.hid (belows_then HBZ.out HBZ.out.size HBQ.out)
                        have HB7R := Lib.hid (belows_then HBR2.out HBR2.out.size HF1.out)
                        have HO7R := Lib.hid (HO2.out.below HF1.out)
                        have HPE : Hid (prs ms = (D2 ++ [(ei, ek)]) ++ ((ms.drop (k + 1)).map (fun x => (ei, x.en)) ++ prs (ms.drop (i + 1)))) := Lib.hid (by rw [hpr2.out, HDK.out, List.map_cons, HEK.out]; simp)
                        have HXN := Lib.hid (trioD_one p J D2 (ei, ek) HDS.out)
                        have hXl : (D2.flatMap (trioD p J)).length ≤ 100 := by
                          have h1 := trioD_len p J D2
                          have h2 := prs_len ms
                          have h3 : ms.length * ms.length ≤ 9 * 9 := Nat.mul_le_mul hm9 hm9
                          rw [HPE.out] at h2
                          simp only [List.length_append, List.length_cons, List.length_nil] at h2
                          omega
                        have HI3 := Lib.hid (i64_ofB (n := DS) (by omega) (by omega))
                        have hcw := HCE.out wr HF1.out
                        have hadr : ad.block < wr.heap.size := Nat.lt_of_lt_of_le HAB.out HB7R.out.size
                        have HCW : Hid (∀ W : World, W.heap[ad.block]? = wr.heap[ad.block]? → (W.cell? (ad.add (i * 5)) = some (.int .i64 ei) ∧ W.cell? (ad.add (k * 5)) = some (.int .i64 ek))) := Lib.hid (fun W h => ⟨by rw [← hcw.1]; exact World.cell?_of_block (w := wr) (by rw [add_block]; exact h), by rw [← hcw.2]; exact World.cell?_of_block (w := wr) (by rw [add_block]; exact h)⟩)
                        have HADR := Lib.hid hadr
                        clear HT2 hS2 hDS hw2 hsb1 HBQ HLB hla hlb hla' HS1 HS2 HBZ HCE hpr2 HO2 HF1 hcw hadr
                        go_wp2_with fail
                        refine (rfits_any DS wr).mono ?_
                        rintro en8 w8 ⟨rfl, rfl⟩
                        clear hn hln hlb'
                        cases hf : fitsB DS
                        · have HDOC : Hid (docI ms p J = ([], 2)) := Lib.hid (docI_bad (A := D2) (k := (ei, ek)) (B := (ms.drop (k + 1)).map (fun x => (ei, x.en)) ++ prs (ms.drop (i + 1))) (by rw [HPE.out]; simp) (by rw [HDS.out]; exact hf))
                          have HBE := Lib.hid (belows_then HB3.out HB3.out.size (belows_then HB7.out HB7.out.size HB7R.out))
                          rw [HDOC.out]
                          simp only [List.length_nil]
                          clear hf HX7 HPE HXN hXl HO7R HB7R HCW HDOC HDK HDI
                          go_wp2_with fail
                          go_ret
                          exact ⟨rfl, HBE.out⟩
                        · have HFN : Hid ((D2 ++ [(ei, ek)]).all (fun k => fitsB (docS p J k)) = true) := Lib.hid (by rw [List.all_append, hfit2.out]; simp [HDS.out, hf])
                          clear hf
                          cases hd0 : DS == 0
                          · have hd1 : (DS != 0) = true := by simpa using hd0
                            have HN : Hid ((D2 ++ [(ei, ek)]).flatMap (trioD p J) = D2.flatMap (trioD p J) ++ [(ei, ek, DS)]) := Lib.hid (by rw [HXN.out, hd0]; rfl)
                            obtain ⟨X, hX⟩ : ∃ X, D2.flatMap (trioD p J) = X := ⟨_, rfl⟩
                            rw [hX] at HN hXl HO7R
                            obtain ⟨i0, hi0, hz0, hz1, hz2⟩ := info_parts infoTQ
                            have hbn : (w8.alloc (.cells #[.int .i64 ei, .int .i64 ek, .int .i64 DS] 75)).drew.heap[w8.heap.size]? = some (.cells #[.int .i64 ei, .int .i64 ek, .int .i64 DS] 75 (0, 0)) := blk_new w8 (.cells #[.int .i64 ei, .int .i64 ek, .int .i64 DS] 75)
                            have HOA : Hid (OwnL tA3 ((w8.alloc (.cells #[.int .i64 ei, .int .i64 ek, .int .i64 DS] 75)).drew) w7.heap.size vo2 X) := Lib.hid ((HO7R.out.alloc (.cells #[.int .i64 ei, .int .i64 ek, .int .i64 DS] 75)).keep (Nat.le_refl _) (fun _ _ => rfl))
                            have HBA := Lib.hid ((HB7R.out.alloc HB7R.out.size (.cells #[.int .i64 ei, .int .i64 ek, .int .i64 DS] 75)).drew)
                            have HSP : Hid (Sl tA3 ((w8.alloc (.cells #[.int .i64 ei, .int .i64 ek, .int .i64 DS] 75)).drew) (fun kk => some kk ≠ vo2.ownBlock ∧ kk < ((w8.alloc (.cells #[.int .i64 ei, .int .i64 ek, .int .i64 DS] 75)).drew).heap.size) (some ⟨w8.heap.size, 0, none⟩) [((ei, ek, DS) : Int × Int × Int)]) := Lib.hid (sl_block [((ei, ek, DS) : Int × Int × Int)] [[.int .i64 ei, .int .i64 ek, .int .i64 DS]] rfl (by simp; rfl) hbn ⟨fun e => by have := (HO7R.out.lt _ e.symm).2; exact absurd this (Nat.lt_irrefl _), blk_lt hbn⟩ (fun i c x hi hx => by
                              match i, hi, hx with
                              | 0, hi, hx => simp at hi hx; subst hi; subst hx; exact ⟨rfl, HII.out.1, HII.out.2, HI3.out⟩
                              | i + 1, hi, hx => simp at hi))
                            have h63 : X.length + [((ei, ek, DS) : Int × Int × Int)].length ≤ maxLen := by simp only [List.length_cons, List.length_nil]; unfold maxLen; omega
                            have hby : (X.length + [((ei, ek, DS) : Int × Int × Int)].length) * 24 ≤ 140737488355328 := by simp only [List.length_cons, List.length_nil]; omega
                            have HKD : Hid (w8.drew.heap[ad.block]? = w8.heap[ad.block]?) := Lib.hid rfl
                            have HKA : Hid ((w8.alloc (.cells #[.int .i64 ei, .int .i64 ek, .int .i64 DS] 75)).drew.heap[ad.block]? = w8.heap[ad.block]?) := Lib.hid (Below.heap_alloc w8 _ _ HADR.out)
                            have HVNE : Hid (some ad.block ≠ vo2.ownBlock) := Lib.hid (fun e => by have := (HO7R.out.lt _ e.symm).1; have := HAB.out; omega)
                            have HADD : Hid (ad.block < (w8.alloc (.cells #[.int .i64 ei, .int .i64 ek, .int .i64 DS] 75)).drew.heap.size) := Lib.hid (by show ad.block < (w8.alloc (.cells #[.int .i64 ei, .int .i64 ek, .int .i64 DS] 75)).heap.size; have := HADR.out; simp; omega)
                            clear hd0 hbn hX HXN HX7 HDK HDI
                            go_wp2_with fail
                            go_region_held3 (fun w' => w'.cell? (ad.add (i * 5)) = some (.int .i64 ei) ∧ w'.cell? (ad.add (k * 5)) = some (.int .i64 ek)) (first | exact HCW.out _ HKD.out | exact HCW.out _ HKA.out | exact HCW.out _ HK9.out) ((refine step_app (T := tA3) rfl (.tmp 158) (.tmp 171) 64 rfl i0 (.agg #[.int .i64 0, .int .i64 0, .int .i64 0]) 24 Tryz.underlying64 hi0 hz0 hz1 hz2 rfl (by decide) a3_one w7.heap.size vo2 X (by simp [Act.eval, Act.put]) HOA.out ⟨w8.heap.size, 0, none⟩ 1 [((ei, ek, DS) : Int × Int × Int)] (by simp [Act.eval, Act.put]) HSP.out h63 hby HBA.out.size ?_; intro v9 w9 hown hg hat; have HO9 := Lib.hid hown; have HB9 := Lib.hid (Below.grown HBA.out hg HBA.out.size (fun k e => (HOA.out.lt k e).1)); have HK9 : Hid (w9.heap[ad.block]? = w8.heap[ad.block]?) := Lib.hid ((hg.block _ HADD.out HVNE.out).trans HKA.out); clear hown hg hat))
                            all_goals
                              go_wp2_with fail
                              go_roundw
                              case rel => exact ⟨k + 1, _, D2 ++ [(ei, ek)], rfl, by omega, by omega, by go_num, by rw [HEI.out]; exact HPE, HFN, by rw [HN.out]; exact HO9.out, HB9.out⟩
                              case measure => simp [Go.RowKit.intOf]; omega
                          · have hd1 : (DS != 0) = false := by simpa using hd0
                            have HN : Hid ((D2 ++ [(ei, ek)]).flatMap (trioD p J) = D2.flatMap (trioD p J)) := Lib.hid (by rw [HXN.out, hd0]; simp)
                            clear hd0
                            go_wp2_with fail
                            go_roundw
                            case rel => exact ⟨k + 1, _, D2 ++ [(ei, ek)], rfl, by omega, by omega, by go_num, by rw [HEI.out]; exact HPE, HFN, by rw [HN.out]; exact HO7R.out, HB7R.out⟩
                            case measure => simp [Go.RowKit.intOf]; omega
            · have HPN : Hid (prs ms = D2 ++ prs (ms.drop (i + 1))) := Lib.hid (by rw [hpr2.out, List.drop_of_length_le (by omega : ms.length ≤ k)]; rfl)
              go_wp2_with fail
              go_roundw
              case rel => exact ⟨i + 1, _, D2, rfl, by omega, by go_num, HPN, hfit2, HO2.out, HBR2.out⟩
              case measure => simp [Go.RowKit.intOf]; omega
        · have HPN : Hid (prs ms = D) := Lib.hid (by rw [hpr.out, List.drop_of_length_le (by omega : ms.length ≤ i)]; simp [prs])
          have HDOC : Hid (docI ms p J = (D.flatMap (trioD p J), 0)) := Lib.hid (by unfold docI; rw [HPN.out, hfit.out]; rfl)
          have hxl : (D.flatMap (trioD p J)).length ≤ maxLen := by
            obtain ⟨_, _, _, g1, g2, _⟩ := HO.out.slice
            exact Nat.le_trans g1 g2
          have hx7 := HX7.out
          rw [HDOC.out] at hx7 ⊢
          simp only at hx7 ⊢
          obtain ⟨wa, wc, rfl, _, _, hws⟩ := HO.out.slice
          have HWS := Lib.hid hws
          have HXR := Lib.hid (Sl.keep (fun k hk _ => HBR.out.block k hk) hx7)
          have HBE := Lib.hid (belows_then HB3.out HB3.out.size (belows_then HB7.out HB7.out.size HBR.out))
          generalize D.flatMap (trioD p J) = X at *
          clear hx7 hws HX7 HO HBR HB7 HBF
          go_wp2_with fail
          refine (sameTrio_is X xa4 wa xc4 wc wr HXR.out HWS.out hxl).mono ?_
          rintro en w8 ⟨rfl, hb⟩
          have HB8 := Lib.hid (belows_then HBE.out HBE.out.size hb)
          clear hb
          go_wp2_with fail
          go_ret
          exact ⟨rfl, HB8.out⟩
    · have HIN := Lib.hid (grInnerF_bad (g := g) (mc := mc) hbad HPI.out HM3.out hml)
      go_wp2_with fail
      refine HIN.out.mono ?_
      rintro en w4 ⟨v4, rfl, ho, hb⟩
      obtain ⟨xa4, xc4, rfl, _, _, _⟩ := ho.slice
      have HB4 := Lib.hid hb
      clear ho hb HIN
      simp only [List.length_nil]
      go_wp2_with fail
      refine (refs_any ms ma mc w4 (Sl.keep (fun k hk _ => HB4.out.block k hk) HM3.out) (by omega)).mono ?_
      rintro en w5 ⟨v, rfl, ho, hb⟩
      obtain ⟨qa, qc, rfl, _, _, hq⟩ := ho.slice
      have HQ5 := Lib.hid hq
      have HB5 := Lib.hid (belows_then HB4.out HB4.out.size hb)
      clear ho hq hb HB4
      have HCK := Lib.hid (r10Check_any ms qa qc w5 HQ5.out hml)
      go_wp2_with fail
      cases hgb : grpB ms
      · rw [hgb] at HCK
        refine HCK.out.mono ?_
        rintro en w6 ⟨rfl, hb⟩
        have HB6 := Lib.hid (belows_then HB3.out HB3.out.size (belows_then HB5.out HB5.out.size hb))
        clear hb hgb hbad
        go_wp2_with fail
        go_ret
        exact ⟨rfl, HB6.out⟩
      · have hmo : monthOk p = false := by
          rcases hbad with h | h
          · rw [hgb] at h; cases h
          · exact h
        rw [hgb] at HCK
        refine HCK.out.mono ?_
        rintro en w6 ⟨rfl, hb⟩
        have HB6 := Lib.hid (belows_then HB5.out HB5.out.size hb)
        clear hb hgb hbad
        go_wp2_with fail
        refine (ref_valid_is p hmo w6).mono ?_
        rintro en w7 ⟨rfl, hb⟩
        have HB7 := Lib.hid (belows_then HB3.out HB3.out.size (belows_then HB6.out HB6.out.size hb))
        clear hb hmo
        go_wp2_with fail
        go_ret
        exact ⟨rfl, HB7.out⟩
end Go.Proofs.YtgggpaacagbmcaaGreat
