/- MergeLike: both sides that changed a journal alike have it so; the one that did nothing has what the other one did. -/
import Derived.Test.YtogikjnfmcfbmaaX38MergeApart
import Derived.Test.YtogikjnfmcfbmaaX39MergeApart
import Derived.Deep.RegionHeld3
set_option linter.unusedVariables false
set_option linter.unusedSimpArgs false
namespace Go.Proofs.Ytogikjnfmcfbmaa
open Go.RowKit Go.Maps

theorem cell_keep {w w' : World} (hb : Below w.heap.size w w') {p : Addr} (hp : p.block < w.heap.size) : w'.cell? p = w.cell? p := World.cell?_of_block (w := w) (hb.block _ hp)
/-- a journal's six cells -/
def Six (w : World) (p : Addr) (x : Jn) (a : Option Addr) (c : Nat) : Prop :=
  w.cell? p = some (.int .i64 x.id) ∧ w.cell? ⟨p.block, p.off + 1, none⟩ = some (.int .i64 x.en) ∧ w.cell? ⟨p.block, p.off + 2, none⟩ = some (.int .i64 x.pe) ∧
    w.cell? ⟨p.block, p.off + 3, none⟩ = some (.string x.ref) ∧ w.cell? ⟨p.block, p.off + 4, none⟩ = some (.slice a x.lines.length c) ∧ w.cell? ⟨p.block, p.off + 5, none⟩ = some (.bool x.void)
theorem Six.keep {w w' : World} {p : Addr} {x : Jn} {a : Option Addr} {c : Nat} (h : Six w p x a c) (hb : Below w.heap.size w w') (hp : p.block < w.heap.size) : Six w' p x a c := by
  unfold Six at h ⊢
  rw [cell_keep hb hp, cell_keep hb (p := ⟨p.block, p.off + 1, none⟩) hp, cell_keep hb (p := ⟨p.block, p.off + 2, none⟩) hp, cell_keep hb (p := ⟨p.block, p.off + 3, none⟩) hp, cell_keep hb (p := ⟨p.block, p.off + 4, none⟩) hp, cell_keep hb (p := ⟨p.block, p.off + 5, none⟩) hp]
  exact h
theorem six_at {w : World} {F : Nat → Prop} {a : Option Addr} {l : List Jn} (h : Sl tJn w F a l) (i : Nat) (hi : i < l.length) :
    ∃ ad la lc, a = some ad ∧ (ad.add (i * 6)).block < w.heap.size ∧ Six w (ad.add (i * 6)) l[i] la lc ∧ tJn.R w F (jcs l[i] la lc) l[i] := by
  obtain ⟨ad, la, lc, rfl, _, h0, h1, h2, h3, h4, h5, h6, h7⟩ := jn_at h i hi
  exact ⟨ad, la, lc, rfl, by rw [add_block]; exact h0, ⟨h1, h2, h3, h4, h5, h6⟩, h7⟩

def SX (w0 w : World) : Prop := Below w0.heap.size w0 w
theorem SX.refl (w : World) : SX w w := Below.refl _ _
theorem SX.drew {w0 w : World} (h : SX w0 w) : SX w0 w.drew := Below.drew h
theorem SX.call {w0 w w' : World} (h : SX w0 w) (hb : Below w.heap.size w w') : SX w0 w' := belows_then h h.size hb
theorem SX.lns {w0 w : World} {F : Nat → Prop} {a : Option Addr} {l : List Ln} (h : SX w0 w) (hs : Sl tLn w0 F a l) : Sl tLn w F a l := Sl.keep (fun k hk _ => h.block k hk) hs
theorem SX.all {w0 w : World} {p q : Addr} {x y : Jn} {la ma : Option Addr} {lc mc : Nat} (hp : p.block < w0.heap.size) (hq : q.block < w0.heap.size) (h1 : Six w0 p x la lc) (h2 : Six w0 q y ma mc) (h : SX w0 w) : SX w0 w ∧ Six w p x la lc ∧ Six w q y ma mc := ⟨h, h1.keep h hp, h2.keep h hq⟩
theorem SX.all3 {w0 w : World} {p q r : Addr} {x y z : Jn} {la ma na : Option Addr} {lc mc nc : Nat} (hp : p.block < w0.heap.size) (hq : q.block < w0.heap.size) (hr : r.block < w0.heap.size) (h1 : Six w0 p x la lc) (h2 : Six w0 q y ma mc) (h3 : Six w0 r z na nc) (h : SX w0 w) : SX w0 w ∧ Six w p x la lc ∧ Six w q y ma mc ∧ Six w r z na nc := ⟨h, h1.keep h hp, h2.keep h hq, h3.keep h hr⟩

set_option maxHeartbeats 16000000 in
set_option maxRecDepth 100000 in
theorem mergeLike_any (l0 l1 l2 : List Jn) (es1 es2 : List Ed) (a0 a1 a2 e1 e2 : Option Addr) (c0 c1 c2 d1 d2 : Nat) (w : World) {F0 F1 F2 F3 F4 : Nat → Prop} (h0 : Sl tJn w F0 a0 l0) (h1 : Sl tJn w F1 a1 l1) (h2 : Sl tJn w F2 a2 l2) (g1 : Sl tEd w F3 e1 es1) (g2 : Sl tEd w F4 e2 es2)
    (k0 : l0.length ≤ maxLen) (k1 : l1.length ≤ maxLen) (k2 : l2.length ≤ maxLen) (m1 : es1.length ≤ maxLen) (m2 : es2.length ≤ maxLen) :
    Calls Try.prog 4 #[(.agg #[.slice a0 l0.length c0, .slice a1 l1.length c1, .slice a2 l2.length c2, .slice e1 es1.length d1, .slice e2 es2.length d2])] w fun e w' => e = .returned (.bool true) ∧ Below w.heap.size w w' := by
  have HB := Lib.hid ((Below.refl w.heap.size w).alloc (Nat.le_refl _) (.cells #[.slice a0 l0.length c0, .slice a1 l1.length c1, .slice a2 l2.length c2, .slice e1 es1.length d1, .slice e2 es2.length d2] 25))
  have HZ := Lib.hid (blk_new w (.cells #[.slice a0 l0.length c0, .slice a1 l1.length c1, .slice a2 l2.length c2, .slice e1 es1.length d1, .slice e2 es2.length d2] 25))
  have H0 := Lib.hid (Sl.keep (fun k hk _ => HB.out.block k hk) h0)
  have H1 := Lib.hid (Sl.keep (fun k hk _ => HB.out.block k hk) h1)
  have H2 := Lib.hid (Sl.keep (fun k hk _ => HB.out.block k hk) h2)
  have G1 := Lib.hid (Sl.keep (fun k hk _ => HB.out.block k hk) g1)
  have G2 := Lib.hid (Sl.keep (fun k hk _ => HB.out.block k hk) g2)
  have KK := Lib.hid (And.intro k0 (And.intro k1 (And.intro k2 (And.intro m1 m2))))
  clear h0 h1 h2 g1 g2 k0 k1 k2 m1 m2
  go_enter Try.func4, Try.ntmps4
  go_wp2_with fail
  refine (light_any l0 l1 l2 es1.length es2.length a0 a1 a2 e1 e2 c0 c1 c2 d1 d2 _ H0.out H1.out H2.out KK.out.1 KK.out.2.1 KK.out.2.2.1 KK.out.2.2.2.1 KK.out.2.2.2.2).mono ?_
  rintro en w1 ⟨⟨b, rfl⟩, hb⟩
  have HB1 := Lib.hid (belows_then HB.out HB.out.size hb)
  have HZ1 := Lib.hid (blk_below HZ.out hb)
  have H01 := Lib.hid (Sl.keep (fun k hk _ => hb.block k hk) H0.out)
  have H11 := Lib.hid (Sl.keep (fun k hk _ => hb.block k hk) H1.out)
  have H21 := Lib.hid (Sl.keep (fun k hk _ => hb.block k hk) H2.out)
  have G11 := Lib.hid (Sl.keep (fun k hk _ => hb.block k hk) G1.out)
  have G21 := Lib.hid (Sl.keep (fun k hk _ => hb.block k hk) G2.out)
  clear hb H0 H1 H2 G1 G2 HB HZ
  cases b
  · go_wp2_with fail
    refine (alive16 w1).mono ?_
    rintro en w2 ⟨rfl, hb⟩
    have HB2 := Lib.hid (belows_then HB1.out HB1.out.size hb)
    clear hb
    go_wp2_with fail
    go_ret
    exact ⟨rfl, HB2.out⟩
  · go_wp2_with fail
    refine (alive16 w1).mono ?_
    rintro en w2 ⟨rfl, hb⟩
    have HB2 := Lib.hid (belows_then HB1.out HB1.out.size hb)
    have HZ2 := Lib.hid (blk_below HZ1.out hb)
    have H02 := Lib.hid (Sl.keep (fun k hk _ => hb.block k hk) H01.out)
    have H12 := Lib.hid (Sl.keep (fun k hk _ => hb.block k hk) H11.out)
    have H22 := Lib.hid (Sl.keep (fun k hk _ => hb.block k hk) H21.out)
    have G12 := Lib.hid (Sl.keep (fun k hk _ => hb.block k hk) G11.out)
    have G22 := Lib.hid (Sl.keep (fun k hk _ => hb.block k hk) G21.out)
    have hz2 := blk_cells HZ2.out
    have hzl2 := blk_lt HZ2.out
    clear hb H01 H11 H21 G11 G21 HB1 HZ1
    go_wp2_with fail
    refine (make_any l0 l1 l2 es1 es2 a0 a1 a2 e1 e2 c0 c1 c2 d1 d2 _ H02.out H12.out H22.out G12.out G22.out KK.out.1 KK.out.2.1 KK.out.2.2.1 KK.out.2.2.2.1 KK.out.2.2.2.2).mono ?_
    rintro en w3 ⟨v0, v1, v2, rfl, ho0, ho1, ho2, hb⟩
    have HB3 := Lib.hid (belows_then HB2.out HB2.out.size hb)
    have HVX := Lib.hid (fit_val 25 l0)
    have HVY := Lib.hid (changed_val (fitJ 25 l0) es1 l1)
    generalize fitJ 25 l0 = X at *
    generalize changedJ X es1 l1 = Y at *
    generalize changedJ X es2 l2 = Z at *
    obtain ⟨q0, p0, rfl, hx⟩ := ho0
    obtain ⟨q1, p1, rfl, hy⟩ := ho1
    obtain ⟨q2, p2, rfl, hzz⟩ := ho2
    have HX3 := Lib.hid hx
    have HY3 := Lib.hid hy
    clear hb hx hy hzz H02 H12 H22 G12 G22 HB2 HZ2 hz2 hzl2
    go_wp2_with fail
    refine (of_val HVX.out q0 p0 _ HX3.out).mono ?_
    rintro en w4 ⟨b0, rfl, hk, hb⟩
    have HB4 := Lib.hid (belows_then HB3.out HB3.out.size hb)
    have HX4 := Lib.hid (Sl.keep (fun k hk _ => hb.block k hk) HX3.out)
    have HY4 := Lib.hid (Sl.keep (fun k hk _ => hb.block k hk) HY3.out)
    have HK4 := Lib.hid hk
    clear hk hb HB3 HX3 HY3
    go_wp2_with fail
    refine (of_val HVY.out q1 p1 _ HY4.out).mono ?_
    rintro en w5 ⟨b1, rfl, hk, hb⟩
    have HB5 := Lib.hid (belows_then HB4.out HB4.out.size hb)
    have HX5 := Lib.hid (Sl.keep (fun k hk _ => hb.block k hk) HX4.out)
    have HY5 := Lib.hid (Sl.keep (fun k hk _ => hb.block k hk) HY4.out)
    have HK5 := Lib.hid (HK4.out.below hb)
    have HL5 := Lib.hid hk
    clear hk hb HB4 HX4 HY4 HK4
    go_wp2_with fail
    refine (of_val HVY.out q1 p1 _ HY5.out).mono ?_
    rintro en w6 ⟨b2, rfl, hk, hb⟩
    have HB6 := Lib.hid (belows_then HB5.out HB5.out.size hb)
    have HX6 := Lib.hid (Sl.keep (fun k hk _ => hb.block k hk) HX5.out)
    have HY6 := Lib.hid (Sl.keep (fun k hk _ => hb.block k hk) HY5.out)
    have HK6 := Lib.hid (HK5.out.below hb)
    have HL6 := Lib.hid (HL5.out.below hb)
    have HM6 := Lib.hid hk
    clear hk hb HB5 HX5 HY5 HK5 HL5
    go_wp2_with fail
    refine (tableF_any HK6.out HL6.out HM6.out).mono ?_
    rintro en w7 ⟨v8, v9, rfl, ho, hc, hb⟩
    have HTL := Lib.hid (tab_like HVX.out HVY.out)
    rw [HTL.out.1.1] at ho
    rw [HTL.out.1.2] at hc
    have HB7 := Lib.hid (belows_then HB6.out HB6.out.size hb)
    have HX7 := Lib.hid (Sl.keep (fun k hk _ => hb.block k hk) HX6.out)
    have HY7 := Lib.hid (Sl.keep (fun k hk _ => hb.block k hk) HY6.out)
    have HK7 := Lib.hid (HK6.out.below hb)
    have HL7 := Lib.hid (HL6.out.below hb)
    obtain ⟨q8, p8, rfl, _, _, hs⟩ := ho.slice
    obtain ⟨q9, p9, rfl, _, _, _⟩ := hc.slice
    have HT7 := Lib.hid hs
    clear ho hc hs hb HB6 HX6 HY6 HK6 HL6 HM6
    go_wp2_with fail
    refine (tableF_any HK7.out HK7.out HK7.out).mono ?_
    rintro en w8 ⟨v10, v11, rfl, ho, hc, hb⟩
    rw [HTL.out.2.1.1] at ho
    rw [HTL.out.2.1.2] at hc
    have HB8 := Lib.hid (belows_then HB7.out HB7.out.size hb)
    have HX8 := Lib.hid (Sl.keep (fun k hk _ => hb.block k hk) HX7.out)
    have HY8 := Lib.hid (Sl.keep (fun k hk _ => hb.block k hk) HY7.out)
    have HT8 := Lib.hid (Sl.keep (fun k hk _ => hb.block k hk) HT7.out)
    have HK8 := Lib.hid (HK7.out.below hb)
    have HL8 := Lib.hid (HL7.out.below hb)
    obtain ⟨q10, p10, rfl, _, _, hs⟩ := ho.slice
    obtain ⟨q11, p11, rfl, _, _, _⟩ := hc.slice
    have HU8 := Lib.hid hs
    clear ho hc hs hb HB7 HX7 HY7 HK7 HL7 HT7
    go_wp2_with fail
    refine (tableF_any HL8.out HK8.out HL8.out).mono ?_
    rintro en w9 ⟨v12, v13, rfl, ho, hc, hb⟩
    rw [HTL.out.2.2.1] at ho
    rw [HTL.out.2.2.2] at hc
    have HB9 := Lib.hid (belows_then HB8.out HB8.out.size hb)
    have HX9 := Lib.hid (Sl.keep (fun k hk _ => hb.block k hk) HX8.out)
    have HY9 := Lib.hid (Sl.keep (fun k hk _ => hb.block k hk) HY8.out)
    have HT9 := Lib.hid (Sl.keep (fun k hk _ => hb.block k hk) HT8.out)
    have HU9 := Lib.hid (Sl.keep (fun k hk _ => hb.block k hk) HU8.out)
    obtain ⟨q12, p12, rfl, _, _, hs⟩ := ho.slice
    obtain ⟨q13, p13, rfl, _, _, _⟩ := hc.slice
    have HV9 := Lib.hid hs
    have hlx : X.length ≤ 9223372036854775807 := Nat.le_trans HVX.out.len (by decide)
    have hly : Y.length ≤ 9223372036854775807 := Nat.le_trans HVY.out.len (by decide)
    clear ho hc hs hb HB8 HX8 HY8 HK8 HL8 HT8 HU8 HTL
    go_wp2_with fail
    go_loopw [15] (fun vi wr => ∃ n : Nat, n ≤ Y.length ∧ vi = .int .i64 n ∧ Below w9.heap.size w9 wr) (fun vi _ => Y.length - (intOf vi).toNat)
    case atStart => exact ⟨0, Nat.zero_le _, rfl, Below.refl _ _⟩
    case round =>
      obtain ⟨n, hn, rfl, hb⟩ := hrel
      have HR := Lib.hid hb
      by_cases hlt : n < Y.length
      · obtain ⟨ad, la, lc, rfl, hdl, hsx, hra⟩ := six_at (Sl.keep (fun k hk _ => hb.block k hk) HT9.out) n hlt
        obtain ⟨bd, ma, mc, rfl, hel, hsy, hrb⟩ := six_at (Sl.keep (fun k hk _ => hb.block k hk) HY9.out) n hlt
        have HLA := Lib.hid (jcs_inv hra).2.2.2.2.1
        have HLB := Lib.hid (jcs_inv hrb).2.2.2.2.1
        have HNA := Lib.hid (Nat.le_trans (jcs_inv hra).2.2.2.2.2.1 (jcs_inv hra).2.2.2.2.2.2.1)
        have HSA := Lib.hid hsx
        have HSB := Lib.hid hsy
        clear hsx hsy hra hrb
        generalize Y[n] = x at *
        clear hb
        go_wp2_with fail
        refine abs_world (S := fun wx => wx = wr) ?_ rfl
        rintro wx rfl
        have hS : SX wx wx := SX.refl wx
        go_region_held3 (fun w' => SX wx w' ∧ (w'.cell? (ad.add (n * 6)) = some (.int .i64 x.id) ∧ w'.cell? ⟨(ad.add (n * 6)).block, (ad.add (n * 6)).off + 1, none⟩ = some (.int .i64 x.en) ∧ w'.cell? ⟨(ad.add (n * 6)).block, (ad.add (n * 6)).off + 2, none⟩ = some (.int .i64 x.pe) ∧ w'.cell? ⟨(ad.add (n * 6)).block, (ad.add (n * 6)).off + 3, none⟩ = some (.string x.ref) ∧ w'.cell? ⟨(ad.add (n * 6)).block, (ad.add (n * 6)).off + 4, none⟩ = some (.slice la x.lines.length lc) ∧ w'.cell? ⟨(ad.add (n * 6)).block, (ad.add (n * 6)).off + 5, none⟩ = some (.bool x.void)) ∧ (w'.cell? (bd.add (n * 6)) = some (.int .i64 x.id) ∧ w'.cell? ⟨(bd.add (n * 6)).block, (bd.add (n * 6)).off + 1, none⟩ = some (.int .i64 x.en) ∧ w'.cell? ⟨(bd.add (n * 6)).block, (bd.add (n * 6)).off + 2, none⟩ = some (.int .i64 x.pe) ∧ w'.cell? ⟨(bd.add (n * 6)).block, (bd.add (n * 6)).off + 3, none⟩ = some (.string x.ref) ∧ w'.cell? ⟨(bd.add (n * 6)).block, (bd.add (n * 6)).off + 4, none⟩ = some (.slice ma x.lines.length mc) ∧ w'.cell? ⟨(bd.add (n * 6)).block, (bd.add (n * 6)).off + 5, none⟩ = some (.bool x.void))) (first | exact SX.all hdl hel HSA.out HSB.out (SX.drew (by assumption)) | exact SX.all hdl hel HSA.out HSB.out (SX.call (And.left (by assumption)) hb)) ((go_at_call 11; refine (rsame_any x x la ma lc mc _ (SX.lns (And.left (by assumption)) HLA.out) (SX.lns (And.left (by assumption)) HLB.out) HNA.out HNA.out (sameJ_refl _)).mono ?_; rintro e w' ⟨rfl, hb⟩))
        have hfin : SX wx w' := And.left (by assumption)
        have HFIN := Lib.hid (HR.out.trans (Below.mono (show Below wx.heap.size wx w' from hfin) HR.out.size))
        clear hS hfin hdl hel
        go_wp2_with fail
        go_roundw
        case rel => exact ⟨n + 1, by omega, by go_num, HFIN.out⟩
        case measure => simp [intOf]; omega
      · have HBA := Lib.hid (HB9.out.trans (hb.mono HB9.out.size))
        have HXA := Lib.hid (Sl.keep (fun k hk _ => hb.block k hk) HX9.out)
        have HUA := Lib.hid (Sl.keep (fun k hk _ => hb.block k hk) HU9.out)
        have HVA := Lib.hid (Sl.keep (fun k hk _ => hb.block k hk) HV9.out)
        clear hb HR HB9 HX9 HU9 HV9 HT9 HY9
        go_wp2_with fail
        go_loopw [16] (fun vi wi => ∃ n : Nat, n ≤ X.length ∧ vi = .int .i64 n ∧ Below wr.heap.size wr wi) (fun vi _ => X.length - (intOf vi).toNat)
        case atStart => exact ⟨0, Nat.zero_le _, rfl, Below.refl _ _⟩
        case round =>
          obtain ⟨n, hn, rfl, hb⟩ := hrel
          have HR := Lib.hid hb
          rename_i wi
          by_cases hlt : n < X.length
          · obtain ⟨ad, la, lc, rfl, hdl, hsx, hra⟩ := six_at (Sl.keep (fun k hk _ => hb.block k hk) HUA.out) n hlt
            obtain ⟨bd, ma, mc, rfl, hel, hsy, hrb⟩ := six_at (Sl.keep (fun k hk _ => hb.block k hk) HXA.out) n hlt
            obtain ⟨cd, na, nc, rfl, hfl, hsz, hrc⟩ := six_at (Sl.keep (fun k hk _ => hb.block k hk) HVA.out) n hlt
            have HLC := Lib.hid (jcs_inv hrc).2.2.2.2.1
            have HSC := Lib.hid hsz
            clear hsz hrc
            have HLA := Lib.hid (jcs_inv hra).2.2.2.2.1
            have HLB := Lib.hid (jcs_inv hrb).2.2.2.2.1
            have HNA := Lib.hid (Nat.le_trans (jcs_inv hra).2.2.2.2.2.1 (jcs_inv hra).2.2.2.2.2.2.1)
            have HSA := Lib.hid hsx
            have HSB := Lib.hid hsy
            clear hsx hsy hra hrb
            generalize X[n] = x at *
            clear hb
            go_wp2_with fail
            refine abs_world (S := fun wx => wx = wr) ?_ rfl
            rintro wx rfl
            have hS : SX wx wx := SX.refl wx
            go_region_held3 (fun w' => SX wx w' ∧ (w'.cell? (ad.add (n * 6)) = some (.int .i64 x.id) ∧ w'.cell? ⟨(ad.add (n * 6)).block, (ad.add (n * 6)).off + 1, none⟩ = some (.int .i64 x.en) ∧ w'.cell? ⟨(ad.add (n * 6)).block, (ad.add (n * 6)).off + 2, none⟩ = some (.int .i64 x.pe) ∧ w'.cell? ⟨(ad.add (n * 6)).block, (ad.add (n * 6)).off + 3, none⟩ = some (.string x.ref) ∧ w'.cell? ⟨(ad.add (n * 6)).block, (ad.add (n * 6)).off + 4, none⟩ = some (.slice la x.lines.length lc) ∧ w'.cell? ⟨(ad.add (n * 6)).block, (ad.add (n * 6)).off + 5, none⟩ = some (.bool x.void)) ∧ (w'.cell? (bd.add (n * 6)) = some (.int .i64 x.id) ∧ w'.cell? ⟨(bd.add (n * 6)).block, (bd.add (n * 6)).off + 1, none⟩ = some (.int .i64 x.en) ∧ w'.cell? ⟨(bd.add (n * 6)).block, (bd.add (n * 6)).off + 2, none⟩ = some (.int .i64 x.pe) ∧ w'.cell? ⟨(bd.add (n * 6)).block, (bd.add (n * 6)).off + 3, none⟩ = some (.string x.ref) ∧ w'.cell? ⟨(bd.add (n * 6)).block, (bd.add (n * 6)).off + 4, none⟩ = some (.slice ma x.lines.length mc) ∧ w'.cell? ⟨(bd.add (n * 6)).block, (bd.add (n * 6)).off + 5, none⟩ = some (.bool x.void)) ∧ (w'.cell? (cd.add (n * 6)) = some (.int .i64 x.id) ∧ w'.cell? ⟨(cd.add (n * 6)).block, (cd.add (n * 6)).off + 1, none⟩ = some (.int .i64 x.en) ∧ w'.cell? ⟨(cd.add (n * 6)).block, (cd.add (n * 6)).off + 2, none⟩ = some (.int .i64 x.pe) ∧ w'.cell? ⟨(cd.add (n * 6)).block, (cd.add (n * 6)).off + 3, none⟩ = some (.string x.ref) ∧ w'.cell? ⟨(cd.add (n * 6)).block, (cd.add (n * 6)).off + 4, none⟩ = some (.slice na x.lines.length nc) ∧ w'.cell? ⟨(cd.add (n * 6)).block, (cd.add (n * 6)).off + 5, none⟩ = some (.bool x.void))) (first | exact SX.all3 hdl hel hfl HSA.out HSB.out HSC.out (SX.drew (by assumption)) | exact SX.all3 hdl hel hfl HSA.out HSB.out HSC.out (SX.call (And.left (by assumption)) hb)) ((go_at_call 11; refine (rsame_any x x _ _ _ _ _ (by first | exact SX.lns (And.left (by assumption)) HLA.out | exact SX.lns (And.left (by assumption)) HLC.out) (SX.lns (And.left (by assumption)) HLB.out) HNA.out HNA.out (sameJ_refl _)).mono ?_; rintro e w' ⟨rfl, hb⟩))
            have hfin : SX wx w' := And.left (by assumption)
            have HFIN := Lib.hid (HR.out.trans (Below.mono (show Below wx.heap.size wx w' from hfin) HR.out.size))
            clear hS hfin hdl hel hfl
            go_wp2_with fail
            go_roundw
            case rel => exact ⟨n + 1, by omega, by go_num, HFIN.out⟩
            case measure => simp [intOf]; omega
          · have HE := Lib.hid (HBA.out.trans (hb.mono HBA.out.size))
            clear hb HR HBA
            go_wp2_with fail
            go_ret
            exact ⟨rfl, HE.out⟩
end Go.Proofs.Ytogikjnfmcfbmaa
