/- MergeApart: changes of different journals never are in conflict: all of them come. -/
import Derived.Test.YtogikjnfmcfbmaaX38MergeApart
import Derived.Test.YtogikjnfmcfbmaaX39MergeApart
import Derived.Test.YtogikjnfmcfbmaaX40MergeApart
import Derived.Test.YtogikjnfmcfbmaaX41MergeApart
import Derived.Test.YtogikjnfmcfbmaaX42MergeApart
import Derived.Deep.RegionHeld3
set_option linter.unusedVariables false
set_option linter.unusedSimpArgs false
namespace Go.Proofs.Ytogikjnfmcfbmaa
open Go.RowKit Go.Maps

theorem six_blk {w : World} {b : Nat} {x : Jn} {a : Option Addr} {c : Nat} (h : w.heap[b]? = some (.cells #[.int .i64 x.id, .int .i64 x.en, .int .i64 x.pe, .string x.ref, .slice a x.lines.length c, .bool x.void] 31 (0, 0))) : Six w ⟨b, 0, none⟩ x a c :=
  ⟨(blk_cells h 0).trans rfl, (blk_cells h 1).trans rfl, (blk_cells h 2).trans rfl, (blk_cells h 3).trans rfl, (blk_cells h 4).trans rfl, (blk_cells h 5).trans rfl⟩
theorem apA_fold_len (X Y : List Jn) : ∀ (l O : List Jn), (l.foldl (apA X Y) O).length ≤ O.length + l.length := by
  intro l
  induction l with
  | nil => simp
  | cons z r ih =>
    intro O
    rw [List.foldl_cons]
    refine Nat.le_trans (ih _) ?_
    have : (apA X Y O z).length ≤ O.length + 1 := by
      unfold apA
      split
      · exact putJ_len _ _
      · split
        · exact putJ_len _ _
        · omega
    simp only [List.length_cons]
    omega
theorem apB_fold_len (Y Z : List Jn) : ∀ (l O : List Jn), (l.foldl (apB Y Z) O).length ≤ O.length + l.length := by
  intro l
  induction l with
  | nil => simp
  | cons z r ih =>
    intro O
    rw [List.foldl_cons]
    refine Nat.le_trans (ih _) ?_
    have : (apB Y Z O z).length ≤ O.length + 1 := by
      unfold apB
      split
      · exact putJ_len _ _
      · omega
    simp only [List.length_cons]
    omega
theorem fold_succ {α β : Type} (f : β → α → β) (l : List α) (n : Nat) (hn : n < l.length) (o : β) : (l.take (n + 1)).foldl f o = f ((l.take n).foldl f o) l[n] := by
  rw [List.take_succ_eq_append_getElem hn, List.foldl_append]
  rfl
/-- what one round of theirs comes to -/
theorem apA_cases {X Y O : List Jn} {z x y : Jn} {bx by' s : Bool} (hx : getJ X z.id = x) (hy : getJ Y z.id = y) (hbx : hasJ X z.id = bx) (hby : hasJ Y z.id = by') (hs : sameJ x y = s) :
    (bx = by' ∧ s = true ∧ apA X Y O z = putJ O z) ∨ (bx = true ∧ by' = true ∧ s = false ∧ apA X Y O z = putJ O x) ∨ (bx = true ∧ by' = false ∧ apA X Y O z = putJ O x) ∨ (bx = false ∧ by' = true ∧ apA X Y O z = O) := by
  unfold apA samB
  rw [hx, hy, hbx, hby, hs]
  cases bx <;> cases by' <;> cases s
  · exfalso
    rw [← hx, ← hy, getJ_no hbx, getJ_no hby, sameJ_refl] at hs
    cases hs
  all_goals simp
theorem apB_cases {Y Z O : List Jn} {x y : Jn} {bz by' s : Bool} (hy : getJ Y x.id = y) (hbz : hasJ Z x.id = bz) (hby : hasJ Y x.id = by') (hs : sameJ x y = s) :
    (bz = true ∧ apB Y Z O x = O) ∨ (bz = false ∧ by' = false ∧ apB Y Z O x = putJ O x) ∨ (bz = false ∧ by' = true ∧ s = true ∧ apB Y Z O x = O) ∨ (bz = false ∧ by' = true ∧ s = false ∧ apB Y Z O x = putJ O x) := by
  unfold apB
  rw [hy, hbz, hby, hs]
  cases bz <;> cases by' <;> cases s <;> simp

set_option maxHeartbeats 16000000 in
set_option maxRecDepth 100000 in
/-- the first loop's round -/
theorem mergeApart_any (l0 l1 l2 : List Jn) (es1 es2 : List Ed) (a0 a1 a2 e1 e2 : Option Addr) (c0 c1 c2 d1 d2 : Nat) (w : World) {F0 F1 F2 F3 F4 : Nat → Prop} (h0 : Sl tJn w F0 a0 l0) (h1 : Sl tJn w F1 a1 l1) (h2 : Sl tJn w F2 a2 l2) (g1 : Sl tEd w F3 e1 es1) (g2 : Sl tEd w F4 e2 es2)
    (k0 : l0.length ≤ maxLen) (k1 : l1.length ≤ maxLen) (k2 : l2.length ≤ maxLen) (m1 : es1.length ≤ maxLen) (m2 : es2.length ≤ maxLen) :
    Calls Try.prog 3 #[(.agg #[.slice a0 l0.length c0, .slice a1 l1.length c1, .slice a2 l2.length c2, .slice e1 es1.length d1, .slice e2 es2.length d2])] w fun e w' => e = .returned (.bool true) ∧ Below w.heap.size w w' := by
  have HB := Lib.hid ((Below.refl w.heap.size w).alloc (Nat.le_refl _) (.cells #[.slice a0 l0.length c0, .slice a1 l1.length c1, .slice a2 l2.length c2, .slice e1 es1.length d1, .slice e2 es2.length d2] 25))
  have HZ := Lib.hid (blk_new w (.cells #[.slice a0 l0.length c0, .slice a1 l1.length c1, .slice a2 l2.length c2, .slice e1 es1.length d1, .slice e2 es2.length d2] 25))
  have H0 := Lib.hid (Sl.keep (fun k hk _ => HB.out.block k hk) h0)
  have H1 := Lib.hid (Sl.keep (fun k hk _ => HB.out.block k hk) h1)
  have H2 := Lib.hid (Sl.keep (fun k hk _ => HB.out.block k hk) h2)
  have G1 := Lib.hid (Sl.keep (fun k hk _ => HB.out.block k hk) g1)
  have G2 := Lib.hid (Sl.keep (fun k hk _ => HB.out.block k hk) g2)
  have KK := Lib.hid (And.intro k0 (And.intro k1 (And.intro k2 (And.intro m1 m2))))
  clear h0 h1 h2 g1 g2 k0 k1 k2 m1 m2
  go_enter Try.func3, Try.ntmps3
  go_wp2_with fail
  refine (light_any l0 l1 l2 es1.length es2.length a0 a1 a2 e1 e2 c0 c1 c2 d1 d2 _ H0.out H1.out H2.out KK.out.1 KK.out.2.1 KK.out.2.2.1 KK.out.2.2.2.1 KK.out.2.2.2.2).mono ?_
  rintro en w1 ⟨⟨b, rfl⟩, hb⟩
  have HB1 := Lib.hid (belows_then HB.out HB.out.size hb)
  have HZ1 := Lib.hid (blk_below HZ.out hb)
  have H01 := Lib.hid (Sl.keep (fun k hk _ => hb.block k hk) H0.out)
  have H11 := Lib.hid (Sl.keep (fun k hk _ => hb.block k hk) H1.out)
  have H21 := Lib.hid (Sl.keep (fun k hk _ => hb.block k hk) H2.out)
  have G11 := Lib.hid (Sl.keep (fun k hk _ => hb.block k hk) G1.out)
  have G21 := Lib.hid (Sl.keep (fun k hk _ => hb.block k hk) G2.out)
  clear hb H0 H1 H2 G1 G2 HB HZ
  cases b
  · go_wp2_with fail
    refine (alive16 w1).mono ?_
    rintro en w2 ⟨rfl, hb⟩
    have HB2 := Lib.hid (belows_then HB1.out HB1.out.size hb)
    clear hb
    go_wp2_with fail
    go_ret
    exact ⟨rfl, HB2.out⟩
  · go_wp2_with fail
    refine (alive16 w1).mono ?_
    rintro en w2 ⟨rfl, hb⟩
    have HB2 := Lib.hid (belows_then HB1.out HB1.out.size hb)
    have HZ2 := Lib.hid (blk_below HZ1.out hb)
    have H02 := Lib.hid (Sl.keep (fun k hk _ => hb.block k hk) H01.out)
    have H12 := Lib.hid (Sl.keep (fun k hk _ => hb.block k hk) H11.out)
    have H22 := Lib.hid (Sl.keep (fun k hk _ => hb.block k hk) H21.out)
    have G12 := Lib.hid (Sl.keep (fun k hk _ => hb.block k hk) G11.out)
    have G22 := Lib.hid (Sl.keep (fun k hk _ => hb.block k hk) G21.out)
    have hz2 := blk_cells HZ2.out
    have hzl2 := blk_lt HZ2.out
    clear hb H01 H11 H21 G11 G21 HB1 HZ1
    go_wp2_with fail
    refine (make_any l0 l1 l2 es1 es2 a0 a1 a2 e1 e2 c0 c1 c2 d1 d2 _ H02.out H12.out H22.out G12.out G22.out KK.out.1 KK.out.2.1 KK.out.2.2.1 KK.out.2.2.2.1 KK.out.2.2.2.2).mono ?_
    rintro en w3 ⟨v0, v1, v2, rfl, ho0, ho1, ho2, hb⟩
    have HB3 := Lib.hid (belows_then HB2.out HB2.out.size hb)
    have HVX := Lib.hid (fit_val 25 l0)
    have HVY := Lib.hid (changed_val (fitJ 25 l0) es1 l1)
    have HVZ := Lib.hid (changed_val (fitJ 25 l0) es2 l2)
    have hxl : (fitJ 25 l0).length ≤ 25 := fitJ_len 25 l0 [] (by simp)
    have hzl : (changedJ (fitJ 25 l0) es2 l2).length ≤ 45 := by
      have q1 := mo_len (l2.take 20) ((fitJ 25 l0).foldl (chStep es2) [])
      have q2 := ch_len es2 (fitJ 25 l0) []
      rw [List.length_take] at q1
      simp only [List.length_nil] at q2
      unfold changedJ
      omega
    generalize fitJ 25 l0 = X at *
    generalize changedJ X es1 l1 = Y at *
    generalize changedJ X es2 l2 = Z at *
    obtain ⟨q0, p0, rfl, hx⟩ := ho0
    obtain ⟨q1, p1, rfl, hy⟩ := ho1
    obtain ⟨q2, p2, rfl, hzz⟩ := ho2
    have HX3 := Lib.hid hx
    have HY3 := Lib.hid hy
    have HZ3 := Lib.hid hzz
    have hlx : X.length ≤ 9223372036854775807 := Nat.le_trans HVX.out.len (by decide)
    have hly : Y.length ≤ 9223372036854775807 := Nat.le_trans HVY.out.len (by decide)
    have hlz : Z.length ≤ 9223372036854775807 := Nat.le_trans HVZ.out.len (by decide)
    have hmy : Y.length ≤ maxLen := Nat.le_trans HVY.out.len (by decide)
    have hmx : X.length ≤ maxLen := Nat.le_trans HVX.out.len (by decide)
    have hmz : Z.length ≤ maxLen := Nat.le_trans HVZ.out.len (by decide)
    clear hb hx hy hzz H02 H12 H22 G12 G22 HB2 HZ2 hz2 hzl2
    go_wp2_with fail
    go_loopw [6, 7, 8, 9, 10, 11] (fun v6 vi v8 v9 v10 v11 wr => ∃ (n : Nat) (vx : Value) (O : List Jn), vx = v6 ∧ n ≤ Z.length ∧ vi = .int .i64 n ∧ Hid (O = (Z.take n).foldl (apA X Y) []) ∧ OwnL tJn wr w3.heap.size vx O ∧ Below w3.heap.size w3 wr) (fun _ vi _ _ _ _ _ => Z.length - (intOf vi).toNat)
    case atStart => exact ⟨0, _, [], rfl, Nat.zero_le _, rfl, Lib.hid rfl, OwnL.nil _ _, Below.refl _ _⟩
    case round =>
      obtain ⟨n, vo, O, rfl, hn, rfl, hO, ho, hb⟩ := hrel
      have HBR := Lib.hid hb
      have HOR := Lib.hid ho
      have hol : O.length ≤ 100000 := by
        rw [hO.out]
        have := apA_fold_len X Y (Z.take n) []
        rw [List.length_take] at this
        simp only [List.length_nil] at this
        omega
      clear hb ho
      by_cases hlt : n < Z.length
      · obtain ⟨ad, la, lc, rfl, hdl, hsx, hra⟩ := six_at (Sl.keep (fun k hk _ => HBR.out.block k hk) HZ3.out) n hlt
        obtain ⟨jx, hjx⟩ : ∃ j, getJ X Z[n].id = j := ⟨_, rfl⟩
        obtain ⟨jy, hjy⟩ : ∃ j, getJ Y Z[n].id = j := ⟨_, rfl⟩
        obtain ⟨bx, hbx⟩ : ∃ j, hasJ X Z[n].id = j := ⟨_, rfl⟩
        obtain ⟨by', hby⟩ : ∃ j, hasJ Y Z[n].id = j := ⟨_, rfl⟩
        obtain ⟨s, hs⟩ : ∃ j, sameJ jx jy = j := ⟨_, rfl⟩
        have HCS := Lib.hid (apA_cases (O := O) hjx hjy hbx hby hs)
        have HJX := Lib.hid (And.intro hjx hbx)
        have HJY := Lib.hid (And.intro hjy hby)
        have HS := Lib.hid hs
        have HN0 : Hid ((Z.take (n + 1)).foldl (apA X Y) [] = apA X Y O Z[n]) := Lib.hid (by rw [fold_succ _ _ _ hlt, ← hO.out])
        have HNEZ : Hid (Z[n].lines ≠ []) := Lib.hid (HVZ.out.good _ (List.getElem_mem hlt)).1
        have HNEX : Hid (bx = true → jx.lines ≠ []) := Lib.hid (fun h => by rw [← hjx]; exact (HVX.out.good _ (getJ_hasJ (hbx.trans h)).1).1)
        have HRA := Lib.hid hra
        have HSX := Lib.hid hsx
        obtain ⟨z0, z1, z2, z3, z4, z5⟩ := hsx
        clear hjx hjy hbx hby hs hra
        generalize Z[n] = z at *
        go_wp2_with fail
        refine (rget_is X q0 p0 z.id wr (Sl.keep (fun k hk _ => HBR.out.block k hk) HX3.out) hmx HJX.out.1 HJX.out.2).mono ?_
        rintro en w4 ⟨xa, xc, rfl, hb, hr⟩
        have HB4 := Lib.hid (belows_then HBR.out HBR.out.size hb)
        have HBQ : Hid (Below w3.heap.size w3 (w4.alloc (.cells #[.int .i64 jx.id, .int .i64 jx.en, .int .i64 jx.pe, .string jx.ref, .slice xa jx.lines.length xc, .bool jx.void] 31))) := Lib.hid (HB4.out.alloc HB4.out.size _)
        have HO4 := Lib.hid ((HOR.out.below hb).alloc (.cells #[.int .i64 jx.id, .int .i64 jx.en, .int .i64 jx.pe, .string jx.ref, .slice xa jx.lines.length xc, .bool jx.void] 31))
        have HRX := Lib.hid (tJn.keep (fun k hk _ => (Below.alloc (Below.refl w4.heap.size w4) (Nat.le_refl _) (.cells #[.int .i64 jx.id, .int .i64 jx.en, .int .i64 jx.pe, .string jx.ref, .slice xa jx.lines.length xc, .bool jx.void] 31)).block k hk) hr)
        have HC8 := Lib.hid (blk_new w4 (.cells #[.int .i64 jx.id, .int .i64 jx.en, .int .i64 jx.pe, .string jx.ref, .slice xa jx.lines.length xc, .bool jx.void] 31))
        have HRA4 := Lib.hid (tJn.keep (fun k hk _ => hb.block k hk) HRA.out)
        have HRA4 := Lib.hid (tJn.keep (fun k hk _ => (Below.alloc (Below.refl w4.heap.size w4) (Nat.le_refl _) (.cells #[.int .i64 jx.id, .int .i64 jx.en, .int .i64 jx.pe, .string jx.ref, .slice xa jx.lines.length xc, .bool jx.void] 31)).block k hk) HRA4.out)
        have HS4 := Lib.hid (HSX.out.keep hb hdl)
        have hdl4 : (ad.add (n * 6)).block < w4.heap.size := Nat.lt_of_lt_of_le hdl hb.size
        clear z0 z1 z2 z3 z4 z5
        obtain ⟨z0, z1, z2, z3, z4, z5⟩ := HS4.out
        clear hb hr
        go_wp2_with fail
        refine (rget_is Y q1 p1 z.id _ (Sl.keep (fun k hk _ => HBQ.out.block k hk) HY3.out) hmy HJY.out.1 HJY.out.2).mono ?_
        rintro en w5 ⟨ya, yc, rfl, hb, hr⟩
        have HB5 := Lib.hid (belows_then HBQ.out HBQ.out.size hb)
        have HBP : Hid (Below w3.heap.size w3 (w5.alloc (.cells #[.int .i64 jy.id, .int .i64 jy.en, .int .i64 jy.pe, .string jy.ref, .slice ya jy.lines.length yc, .bool jy.void] 31))) := Lib.hid (HB5.out.alloc HB5.out.size _)
        have HA5 : Hid (Below (w4.alloc (.cells #[.int .i64 jx.id, .int .i64 jx.en, .int .i64 jx.pe, .string jx.ref, .slice xa jx.lines.length xc, .bool jx.void] 31)).heap.size (w4.alloc (.cells #[.int .i64 jx.id, .int .i64 jx.en, .int .i64 jx.pe, .string jx.ref, .slice xa jx.lines.length xc, .bool jx.void] 31)) (w5.alloc (.cells #[.int .i64 jy.id, .int .i64 jy.en, .int .i64 jy.pe, .string jy.ref, .slice ya jy.lines.length yc, .bool jy.void] 31))) := Lib.hid (hb.alloc hb.size _)
        have HO5 := Lib.hid (HO4.out.below HA5.out)
        have HRX5 := Lib.hid (tJn.keep (fun k hk _ => HA5.out.block k hk) HRX.out)
        have HRY5 := Lib.hid (tJn.keep (fun k hk _ => (Below.alloc (Below.refl w5.heap.size w5) (Nat.le_refl _) (.cells #[.int .i64 jy.id, .int .i64 jy.en, .int .i64 jy.pe, .string jy.ref, .slice ya jy.lines.length yc, .bool jy.void] 31)).block k hk) hr)
        have HC5 := Lib.hid (blk_below HC8.out HA5.out)
        have HD5 := Lib.hid (blk_new w5 (.cells #[.int .i64 jy.id, .int .i64 jy.en, .int .i64 jy.pe, .string jy.ref, .slice ya jy.lines.length yc, .bool jy.void] 31))
        have HRA5 := Lib.hid (tJn.keep (fun k hk _ => HA5.out.block k hk) HRA4.out)
        have HS5 : Hid (Six (w5.alloc (.cells #[.int .i64 jy.id, .int .i64 jy.en, .int .i64 jy.pe, .string jy.ref, .slice ya jy.lines.length yc, .bool jy.void] 31)) (ad.add (n * 6)) z la lc) := Lib.hid ((HS4.out.keep (Below.alloc (Below.refl w4.heap.size w4) (Nat.le_refl _) (.cells #[.int .i64 jx.id, .int .i64 jx.en, .int .i64 jx.pe, .string jx.ref, .slice xa jx.lines.length xc, .bool jx.void] 31)) hdl4).keep HA5.out (by simp; omega))
        have hdl5 : (ad.add (n * 6)).block < (w5.alloc (.cells #[.int .i64 jy.id, .int .i64 jy.en, .int .i64 jy.pe, .string jy.ref, .slice ya jy.lines.length yc, .bool jy.void] 31)).heap.size := by have := HA5.out.size; simp at this ⊢; omega
        have hw45 : w4.heap.size < w5.heap.size := by have := hb.size; simp at this; omega
        clear z0 z1 z2 z3 z4 z5 hb hr hdl4 HS4 HRA4 HC8 HRX HO4 HBQ HSX HRA
        have HLX := Lib.hid (jcs_inv HRX5.out)
        have HLY := Lib.hid (jcs_inv HRY5.out)
        have hz8 := blk_cells HC5.out
        have hz9 := blk_cells HD5.out
        have hl8 := blk_lt HC5.out
        have hl9 := blk_lt HD5.out
        rcases HCS.out with ⟨rfl, rfl, hap⟩ | ⟨rfl, rfl, rfl, hap⟩ | ⟨rfl, rfl, hap⟩ | ⟨rfl, rfl, hap⟩
        · have HAP := Lib.hid (HN0.out.trans hap)
          clear hap HCS
          go_wp2_with fail
          refine (rsame_any jx jy xa ya xc yc _ HLX.out.2.2.2.2.1 HLY.out.2.2.2.2.1 (Nat.le_trans HLX.out.2.2.2.2.2.1 HLX.out.2.2.2.2.2.2.1) (Nat.le_trans HLY.out.2.2.2.2.2.1 HLY.out.2.2.2.2.2.2.1) HS.out).mono ?_
          rintro en w6 ⟨rfl, hb⟩
          have HB6 := Lib.hid (belows_then HBP.out HBP.out.size hb)
          have HO6 := Lib.hid (HO5.out.below hb)
          have HR6 := Lib.hid (tJn.keep (fun k hk _ => hb.block k hk) HRA5.out)
          have HX6 := Lib.hid (tJn.keep (fun k hk _ => hb.block k hk) HRX5.out)
          have HC6 := Lib.hid (blk_below HC5.out hb)
          have HS6 := Lib.hid (HS5.out.keep hb hdl5)
          obtain ⟨z0, z1, z2, z3, z4, z5⟩ := HS6.out
          have hdl6 := Nat.lt_of_lt_of_le hdl5 hb.size
          clear hz8 hz9 hl8 hl9
          have hz8 := blk_cells HC6.out
          have hl8 := blk_lt HC6.out
          obtain ⟨oa, oc, rfl, _, _, hos⟩ := HO6.out.slice
          have HOS := Lib.hid hos
          clear hb hos
          go_wp2_with fail
          refine (rput_any O oa oc z la lc w6 HOS.out hol HR6.out HNEZ.out).mono ?_
          rintro en w7 ⟨v7, rfl, ho, hb⟩
          have HO7 := Lib.hid (ho.mono HB6.out.size)
          have HB7 := Lib.hid (belows_then HB6.out HB6.out.size hb)
          clear ho hb
          go_wp2_with fail
          go_roundw
          case rel => exact ⟨n + 1, _, _, rfl, by omega, by go_num, Lib.hid HAP.out.symm, HO7.out, HB7.out⟩
          case measure => simp [intOf]; omega
        · have HAP := Lib.hid (HN0.out.trans hap)
          clear hap HCS
          go_wp2_with fail
          refine (rsame_any jx jy xa ya xc yc _ HLX.out.2.2.2.2.1 HLY.out.2.2.2.2.1 (Nat.le_trans HLX.out.2.2.2.2.2.1 HLX.out.2.2.2.2.2.2.1) (Nat.le_trans HLY.out.2.2.2.2.2.1 HLY.out.2.2.2.2.2.2.1) HS.out).mono ?_
          rintro en w6 ⟨rfl, hb⟩
          have HB6 := Lib.hid (belows_then HBP.out HBP.out.size hb)
          have HO6 := Lib.hid (HO5.out.below hb)
          have HR6 := Lib.hid (tJn.keep (fun k hk _ => hb.block k hk) HRA5.out)
          have HX6 := Lib.hid (tJn.keep (fun k hk _ => hb.block k hk) HRX5.out)
          have HC6 := Lib.hid (blk_below HC5.out hb)
          have HS6 := Lib.hid (HS5.out.keep hb hdl5)
          obtain ⟨z0, z1, z2, z3, z4, z5⟩ := HS6.out
          have hdl6 := Nat.lt_of_lt_of_le hdl5 hb.size
          clear hz8 hz9 hl8 hl9
          have hz8 := blk_cells HC6.out
          have hl8 := blk_lt HC6.out
          obtain ⟨oa, oc, rfl, _, _, hos⟩ := HO6.out.slice
          have HOS := Lib.hid hos
          clear hb hos
          go_wp2_with fail
          refine (rput_any O oa oc jx xa xc w6 HOS.out hol HX6.out (HNEX.out (by first | trivial | rfl))).mono ?_
          rintro en w7 ⟨v7, rfl, ho, hb⟩
          have HO7 := Lib.hid (ho.mono HB6.out.size)
          have HB7 := Lib.hid (belows_then HB6.out HB6.out.size hb)
          clear ho hb
          go_wp2_with fail
          go_roundw
          case rel => exact ⟨n + 1, _, _, rfl, by omega, by go_num, Lib.hid HAP.out.symm, HO7.out, HB7.out⟩
          case measure => simp [intOf]; omega
        · have HAP := Lib.hid (HN0.out.trans hap)
          clear hap HCS
          obtain ⟨oa, oc, rfl, _, _, hos⟩ := HO5.out.slice
          have HOS := Lib.hid hos
          clear hos
          go_wp2_with fail
          refine (rput_any O oa oc jx xa xc _ HOS.out hol HRX5.out (HNEX.out (by first | trivial | rfl))).mono ?_
          rintro en w7 ⟨v7, rfl, ho, hb⟩
          have HO7 := Lib.hid (ho.mono HBP.out.size)
          have HB7 := Lib.hid (belows_then HBP.out HBP.out.size hb)
          clear ho hb
          go_wp2_with fail
          go_roundw
          case rel => exact ⟨n + 1, _, _, rfl, by omega, by go_num, Lib.hid HAP.out.symm, HO7.out, HB7.out⟩
          case measure => simp [intOf]; omega
        · have HAP := Lib.hid (HN0.out.trans hap)
          clear hap HCS
          go_wp2_with fail
          go_roundw
          case rel => exact ⟨n + 1, _, _, rfl, by omega, by go_num, Lib.hid HAP.out.symm, HO5.out, HBP.out⟩
          case measure => simp [intOf]; omega
      · have HM : Hid (O = Z.foldl (apA X Y) []) := Lib.hid (by rw [hO.out, take_all hn hlt])
        have hol2 : O.length ≤ 45 := by
          rw [HM.out]
          have := apA_fold_len X Y Z []
          simp only [List.length_nil] at this
          omega
        clear hol hO
        go_wp2_with fail
        clear hlt
        go_loopw [6, 12, 13, 14, 15, 16] (fun v6 vi v13 v14 v15 v16 wi => ∃ (n : Nat) (vx : Value) (P : List Jn), vx = v6 ∧ n ≤ X.length ∧ vi = .int .i64 n ∧ Hid (P = (X.take n).foldl (apB Y Z) O) ∧ OwnL tJn wi w3.heap.size vx P ∧ Below w3.heap.size w3 wi) (fun _ vi _ _ _ _ _ => X.length - (intOf vi).toNat)
        case atStart => exact ⟨0, _, O, rfl, Nat.zero_le _, rfl, Lib.hid rfl, HOR.out, HBR.out⟩
        case round =>
          clear HOR HBR
          obtain ⟨n, vo, P, rfl, hn, rfl, hP, ho, hb⟩ := hrel
          have HBR := Lib.hid hb
          have HOR := Lib.hid ho
          have hpl : P.length ≤ 1000 := by
            rw [hP.out]
            have := apB_fold_len Y Z (X.take n) O
            rw [List.length_take] at this
            omega
          clear hb ho
          by_cases hlt : n < X.length
          · obtain ⟨ad, la, lc, rfl, hdl, hsx, hra⟩ := six_at (Sl.keep (fun k hk _ => HBR.out.block k hk) HX3.out) n hlt
            obtain ⟨jz, hjz⟩ : ∃ j, getJ Z X[n].id = j := ⟨_, rfl⟩
            obtain ⟨jy, hjy⟩ : ∃ j, getJ Y X[n].id = j := ⟨_, rfl⟩
            obtain ⟨bz, hbz⟩ : ∃ j, hasJ Z X[n].id = j := ⟨_, rfl⟩
            obtain ⟨by', hby⟩ : ∃ j, hasJ Y X[n].id = j := ⟨_, rfl⟩
            obtain ⟨s, hs⟩ : ∃ j, sameJ X[n] jy = j := ⟨_, rfl⟩
            have HCS := Lib.hid (apB_cases (O := P) hjy hbz hby hs)
            have HJZ := Lib.hid (And.intro hjz hbz)
            have HJY := Lib.hid (And.intro hjy hby)
            have HS := Lib.hid hs
            have HN0 : Hid ((X.take (n + 1)).foldl (apB Y Z) O = apB Y Z P X[n]) := Lib.hid (by rw [fold_succ _ _ _ hlt, ← hP.out])
            have HNEX : Hid (X[n].lines ≠ []) := Lib.hid (HVX.out.good _ (List.getElem_mem hlt)).1
            have HRA := Lib.hid hra
            have HSX := Lib.hid hsx
            obtain ⟨z0, z1, z2, z3, z4, z5⟩ := hsx
            clear hjz hjy hbz hby hs hra
            generalize X[n] = x at *
            go_wp2_with fail
            refine (rget_is Z q2 p2 x.id wr (Sl.keep (fun k hk _ => HBR.out.block k hk) HZ3.out) hmz HJZ.out.1 HJZ.out.2).mono ?_
            rintro en w4 ⟨xa, xc, rfl, hb, hr⟩
            have HB4 := Lib.hid (belows_then HBR.out HBR.out.size hb)
            have HBQ : Hid (Below w3.heap.size w3 (w4.alloc (.cells #[.int .i64 jz.id, .int .i64 jz.en, .int .i64 jz.pe, .string jz.ref, .slice xa jz.lines.length xc, .bool jz.void] 31))) := Lib.hid (HB4.out.alloc HB4.out.size _)
            have HO4 := Lib.hid ((HOR.out.below hb).alloc (.cells #[.int .i64 jz.id, .int .i64 jz.en, .int .i64 jz.pe, .string jz.ref, .slice xa jz.lines.length xc, .bool jz.void] 31))
            have HRA4 := Lib.hid (tJn.keep (fun k hk _ => hb.block k hk) HRA.out)
            have HRA4 := Lib.hid (tJn.keep (fun k hk _ => (Below.alloc (Below.refl w4.heap.size w4) (Nat.le_refl _) (.cells #[.int .i64 jz.id, .int .i64 jz.en, .int .i64 jz.pe, .string jz.ref, .slice xa jz.lines.length xc, .bool jz.void] 31)).block k hk) HRA4.out)
            have HS4 := Lib.hid (HSX.out.keep hb hdl)
            have hdl4 : (ad.add (n * 6)).block < w4.heap.size := Nat.lt_of_lt_of_le hdl hb.size
            clear z0 z1 z2 z3 z4 z5
            obtain ⟨z0, z1, z2, z3, z4, z5⟩ := HS4.out
            clear hb hr
            go_wp2_with fail
            refine (rget_is Y q1 p1 x.id _ (Sl.keep (fun k hk _ => HBQ.out.block k hk) HY3.out) hmy HJY.out.1 HJY.out.2).mono ?_
            rintro en w5 ⟨ya, yc, rfl, hb, hr⟩
            have HB5 := Lib.hid (belows_then HBQ.out HBQ.out.size hb)
            have HBP : Hid (Below w3.heap.size w3 (w5.alloc (.cells #[.int .i64 jy.id, .int .i64 jy.en, .int .i64 jy.pe, .string jy.ref, .slice ya jy.lines.length yc, .bool jy.void] 31))) := Lib.hid (HB5.out.alloc HB5.out.size _)
            have HA5 : Hid (Below (w4.alloc (.cells #[.int .i64 jz.id, .int .i64 jz.en, .int .i64 jz.pe, .string jz.ref, .slice xa jz.lines.length xc, .bool jz.void] 31)).heap.size (w4.alloc (.cells #[.int .i64 jz.id, .int .i64 jz.en, .int .i64 jz.pe, .string jz.ref, .slice xa jz.lines.length xc, .bool jz.void] 31)) (w5.alloc (.cells #[.int .i64 jy.id, .int .i64 jy.en, .int .i64 jy.pe, .string jy.ref, .slice ya jy.lines.length yc, .bool jy.void] 31))) := Lib.hid (hb.alloc hb.size _)
            have HO5 := Lib.hid (HO4.out.below HA5.out)
            have HRY5 := Lib.hid (tJn.keep (fun k hk _ => (Below.alloc (Below.refl w5.heap.size w5) (Nat.le_refl _) (.cells #[.int .i64 jy.id, .int .i64 jy.en, .int .i64 jy.pe, .string jy.ref, .slice ya jy.lines.length yc, .bool jy.void] 31)).block k hk) hr)
            have HD5 := Lib.hid (blk_new w5 (.cells #[.int .i64 jy.id, .int .i64 jy.en, .int .i64 jy.pe, .string jy.ref, .slice ya jy.lines.length yc, .bool jy.void] 31))
            have HRA5 := Lib.hid (tJn.keep (fun k hk _ => HA5.out.block k hk) HRA4.out)
            have HS5 : Hid (Six (w5.alloc (.cells #[.int .i64 jy.id, .int .i64 jy.en, .int .i64 jy.pe, .string jy.ref, .slice ya jy.lines.length yc, .bool jy.void] 31)) (ad.add (n * 6)) x la lc) := Lib.hid ((HS4.out.keep (Below.alloc (Below.refl w4.heap.size w4) (Nat.le_refl _) (.cells #[.int .i64 jz.id, .int .i64 jz.en, .int .i64 jz.pe, .string jz.ref, .slice xa jz.lines.length xc, .bool jz.void] 31)) hdl4).keep HA5.out (by simp; omega))
            have hdl5 : (ad.add (n * 6)).block < (w5.alloc (.cells #[.int .i64 jy.id, .int .i64 jy.en, .int .i64 jy.pe, .string jy.ref, .slice ya jy.lines.length yc, .bool jy.void] 31)).heap.size := by have := HA5.out.size; simp at this ⊢; omega
            clear z0 z1 z2 z3 z4 z5 hb hr hdl4 HS4 HRA4 HO4 HBQ HSX HRA
            go_wp2_with fail
            refine abs_world (S := fun wx => Below w3.heap.size w3 wx ∧ OwnL tJn wx w3.heap.size vo P ∧ Six wx (ad.add (n * 6)) x la lc ∧ wx.heap[w5.heap.size]? = some (.cells #[.int .i64 jy.id, .int .i64 jy.en, .int .i64 jy.pe, .string jy.ref, .slice ya jy.lines.length yc, .bool jy.void] 31 (0, 0)) ∧ tJn.R wx (fun _ => True) (jcs x la lc) x ∧ tJn.R wx (fun _ => True) (jcs jy ya yc) jy ∧ (ad.add (n * 6)).block < wx.heap.size) ?_ ⟨HBP.out, HO5.out, HS5.out, HD5.out, HRA5.out, HRY5.out, hdl5⟩
            clear HBP HO5 HS5 HD5 HRA5 HRY5 hdl5 HA5
            rintro wx ⟨hbx, hox, hsx, hcx, hrx, hry, hdx⟩
            have HBX := Lib.hid hbx
            have HOX := Lib.hid hox
            have HSA := Lib.hid hsx
            have HSB := Lib.hid (six_blk hcx)
            have HCX := Lib.hid hcx
            have HRX := Lib.hid hrx
            have HLA := Lib.hid (jcs_inv hrx).2.2.2.2.1
            have HLB := Lib.hid (jcs_inv hry).2.2.2.2.1
            have HNA := Lib.hid (Nat.le_trans (jcs_inv hrx).2.2.2.2.2.1 (jcs_inv hrx).2.2.2.2.2.2.1)
            have HNB := Lib.hid (Nat.le_trans (jcs_inv hry).2.2.2.2.2.1 (jcs_inv hry).2.2.2.2.2.2.1)
            obtain ⟨oa, oc, rfl, _, _, hos⟩ := hox.slice
            have HOS := Lib.hid hos
            clear hbx hox hcx hrx hry hos hdl
            have hdl := hdx
            clear hdx
            have hel := blk_lt HCX.out
            rcases HCS.out with ⟨rfl, hap⟩ | ⟨rfl, rfl, hap⟩ | ⟨rfl, rfl, rfl, hap⟩ | ⟨rfl, rfl, rfl, hap⟩
            · have HAP := Lib.hid (HN0.out.trans hap)
              clear hap HCS hsx
              go_quiet (fail)
              go_wp2_with fail
              go_roundw
              case rel => exact ⟨n + 1, _, _, rfl, by omega, by go_num, Lib.hid HAP.out.symm, OwnL.keep HOX.out (Nat.le_refl _) (fun k hk => rfl), below_drewN HBX.out _⟩
              case measure => simp [intOf]; omega
            · have HAP := Lib.hid (HN0.out.trans hap)
              clear hap HCS
              obtain ⟨z0, z1, z2, z3, z4, z5⟩ := hsx
              go_quiet (fail)
              go_wp2_with fail
              refine (rput_any P oa oc x la lc _ (Sl.keep (fun k hk _ => (below_drewN (Below.refl wx.heap.size wx) _).block k hk) HOS.out) (by omega) (tJn.keep (fun k hk _ => (below_drewN (Below.refl wx.heap.size wx) _).block k hk) HRX.out) HNEX.out).mono ?_
              rintro en w7 ⟨v7, rfl, ho, hb⟩
              have HO7 := Lib.hid (ho.mono (below_drewN HBX.out _).size)
              have HB7 := Lib.hid (belows_then (below_drewN HBX.out _) (below_drewN HBX.out _).size hb)
              clear ho hb
              go_wp2_with fail
              go_roundw
              case rel => exact ⟨n + 1, _, _, rfl, by omega, by go_num, Lib.hid HAP.out.symm, HO7.out, HB7.out⟩
              case measure => simp [intOf]; omega
            · have HAP := Lib.hid (HN0.out.trans hap)
              clear hap HCS hsx
              have hS : SX wx wx := SX.refl wx
              go_region_held3 (fun w' => SX wx w' ∧ (w'.cell? (ad.add (n * 6)) = some (.int .i64 x.id) ∧ w'.cell? ⟨(ad.add (n * 6)).block, (ad.add (n * 6)).off + 1, none⟩ = some (.int .i64 x.en) ∧ w'.cell? ⟨(ad.add (n * 6)).block, (ad.add (n * 6)).off + 2, none⟩ = some (.int .i64 x.pe) ∧ w'.cell? ⟨(ad.add (n * 6)).block, (ad.add (n * 6)).off + 3, none⟩ = some (.string x.ref) ∧ w'.cell? ⟨(ad.add (n * 6)).block, (ad.add (n * 6)).off + 4, none⟩ = some (.slice la x.lines.length lc) ∧ w'.cell? ⟨(ad.add (n * 6)).block, (ad.add (n * 6)).off + 5, none⟩ = some (.bool x.void)) ∧ (w'.cell? ⟨w5.heap.size, 0, none⟩ = some (.int .i64 jy.id) ∧ w'.cell? ⟨w5.heap.size, 1, none⟩ = some (.int .i64 jy.en) ∧ w'.cell? ⟨w5.heap.size, 2, none⟩ = some (.int .i64 jy.pe) ∧ w'.cell? ⟨w5.heap.size, 3, none⟩ = some (.string jy.ref) ∧ w'.cell? ⟨w5.heap.size, 4, none⟩ = some (.slice ya jy.lines.length yc) ∧ w'.cell? ⟨w5.heap.size, 5, none⟩ = some (.bool jy.void))) (first | exact SX.all hdl hel HSA.out HSB.out (SX.drew (by assumption)) | exact SX.all hdl hel HSA.out HSB.out (SX.call (And.left (by assumption)) hb)) ((go_at_call 11; refine (rsame_any _ _ _ _ _ _ _ (by first | exact SX.lns (And.left (by assumption)) HLA.out | exact SX.lns (And.left (by assumption)) HLB.out) (by first | exact SX.lns (And.left (by assumption)) HLB.out | exact SX.lns (And.left (by assumption)) HLA.out) (by first | exact HNA.out | exact HNB.out) (by first | exact HNB.out | exact HNA.out) HS.out).mono ?_; rintro e w' ⟨rfl, hb⟩))
              have hfin : SX wx w' := And.left (by assumption)
              have HFIN := Lib.hid (HBX.out.trans (Below.mono (show Below wx.heap.size wx w' from hfin) HBX.out.size))
              have HO6 := Lib.hid (HOX.out.below hfin)
              clear hS hfin hdl hel
              go_wp2_with fail
              go_roundw
              case rel => exact ⟨n + 1, _, _, rfl, by omega, by go_num, Lib.hid HAP.out.symm, HO6.out, HFIN.out⟩
              case measure => simp [intOf]; omega
            · have HAP := Lib.hid (HN0.out.trans hap)
              clear hap HCS hsx
              have hS : SX wx wx := SX.refl wx
              go_region_held3 (fun w' => SX wx w' ∧ (w'.cell? (ad.add (n * 6)) = some (.int .i64 x.id) ∧ w'.cell? ⟨(ad.add (n * 6)).block, (ad.add (n * 6)).off + 1, none⟩ = some (.int .i64 x.en) ∧ w'.cell? ⟨(ad.add (n * 6)).block, (ad.add (n * 6)).off + 2, none⟩ = some (.int .i64 x.pe) ∧ w'.cell? ⟨(ad.add (n * 6)).block, (ad.add (n * 6)).off + 3, none⟩ = some (.string x.ref) ∧ w'.cell? ⟨(ad.add (n * 6)).block, (ad.add (n * 6)).off + 4, none⟩ = some (.slice la x.lines.length lc) ∧ w'.cell? ⟨(ad.add (n * 6)).block, (ad.add (n * 6)).off + 5, none⟩ = some (.bool x.void)) ∧ (w'.cell? ⟨w5.heap.size, 0, none⟩ = some (.int .i64 jy.id) ∧ w'.cell? ⟨w5.heap.size, 1, none⟩ = some (.int .i64 jy.en) ∧ w'.cell? ⟨w5.heap.size, 2, none⟩ = some (.int .i64 jy.pe) ∧ w'.cell? ⟨w5.heap.size, 3, none⟩ = some (.string jy.ref) ∧ w'.cell? ⟨w5.heap.size, 4, none⟩ = some (.slice ya jy.lines.length yc) ∧ w'.cell? ⟨w5.heap.size, 5, none⟩ = some (.bool jy.void))) (first | exact SX.all hdl hel HSA.out HSB.out (SX.drew (by assumption)) | exact SX.all hdl hel HSA.out HSB.out (SX.call (And.left (by assumption)) hb)) ((go_at_call 11; refine (rsame_any _ _ _ _ _ _ _ (by first | exact SX.lns (And.left (by assumption)) HLA.out | exact SX.lns (And.left (by assumption)) HLB.out) (by first | exact SX.lns (And.left (by assumption)) HLB.out | exact SX.lns (And.left (by assumption)) HLA.out) (by first | exact HNA.out | exact HNB.out) (by first | exact HNB.out | exact HNA.out) HS.out).mono ?_; rintro e w' ⟨rfl, hb⟩))
              have hfin : SX wx w' := And.left (by assumption)
              have HFIN := Lib.hid (HBX.out.trans (Below.mono (show Below wx.heap.size wx w' from hfin) HBX.out.size))
              have HOS6 := Lib.hid (Sl.keep (fun k hk _ => hfin.block k hk) HOS.out)
              have HRX6 := Lib.hid (tJn.keep (fun k hk _ => hfin.block k hk) HRX.out)
              have hsx := HSA.out.keep hfin hdl
              obtain ⟨z0, z1, z2, z3, z4, z5⟩ := hsx
              have hdl7 := Nat.lt_of_lt_of_le hdl hfin.size
              clear hS hfin hdl hel
              go_wp2_with fail
              refine (rput_any P oa oc x la lc _ HOS6.out (by omega) HRX6.out HNEX.out).mono ?_
              rintro en w7 ⟨v7, rfl, ho, hb⟩
              have HO7 := Lib.hid (ho.mono HFIN.out.size)
              have HB7 := Lib.hid (belows_then HFIN.out HFIN.out.size hb)
              clear ho hb
              go_wp2_with fail
              go_roundw
              case rel => exact ⟨n + 1, _, _, rfl, by omega, by go_num, Lib.hid HAP.out.symm, HO7.out, HB7.out⟩
              case measure => simp [intOf]; omega
          · have hfd : (X.foldl (apB Y Z) O) = mineJ X Y Z := by rw [HM.out]; rfl
            have HP : Hid (P = mineJ X Y Z) := Lib.hid (by rw [hP.out, take_all hn hlt, hfd])
            have HAM := Lib.hid (mine_is (X := X) (Y := Y) (Z := Z) HVX.out HVZ.out)
            have HPL := Lib.hid (apart_plain HVX.out HVY.out HVZ.out)
            rw [← HP.out] at HAM HPL
            have hinc : IncJ P := incJ_iff.2 HAM.out.1
            have hpl2 : P.length ≤ 200 := by
              rw [hP.out]
              have := apB_fold_len Y Z (X.take n) O
              rw [List.length_take] at this
              omega
            obtain ⟨oa, oc, rfl, _, _, hos⟩ := HOR.out.slice
            have HX4 := Lib.hid (Sl.keep (fun k hk _ => HBR.out.block k hk) HX3.out)
            have HY4 := Lib.hid (Sl.keep (fun k hk _ => HBR.out.block k hk) HY3.out)
            have HOS := Lib.hid hos
            have HINC := Lib.hid hinc
            clear hfd HP HAM hinc hP HOR hos HM
            go_wp2_with fail
            clear hlt
            refine (of_val HVX.out q0 p0 _ HX4.out).mono ?_
            rintro en w4 ⟨b0, rfl, hk, hb⟩
            have HB4 := Lib.hid (belows_then HBR.out HBR.out.size hb)
            have HX5 := Lib.hid (Sl.keep (fun k hk _ => hb.block k hk) HX4.out)
            have HY5 := Lib.hid (Sl.keep (fun k hk _ => hb.block k hk) HY4.out)
            have HOS4 := Lib.hid (Sl.keep (fun k hk _ => hb.block k hk) HOS.out)
            have HK4 := Lib.hid hk
            clear hk hb HBR HX4 HY4 HOS
            go_wp2_with fail
            refine (of_val HVY.out q1 p1 _ HY5.out).mono ?_
            rintro en w5 ⟨b1, rfl, hk, hb⟩
            have HB5 := Lib.hid (belows_then HB4.out HB4.out.size hb)
            have HX6 := Lib.hid (Sl.keep (fun k hk _ => hb.block k hk) HX5.out)
            have HY6 := Lib.hid (Sl.keep (fun k hk _ => hb.block k hk) HY5.out)
            have HOS5 := Lib.hid (Sl.keep (fun k hk _ => hb.block k hk) HOS4.out)
            have HK5 := Lib.hid (HK4.out.below hb)
            have HL5 := Lib.hid hk
            clear hk hb HB4 HX5 HY5 HOS4 HK4
            cases hof : ofB P
            · have HOF := Lib.hid hof
              clear hof
              go_wp2_with fail
              refine (lof_no P oa oc _ HOS5.out (by omega) HINC.out HOF.out).mono ?_
              rintro en w6 ⟨rfl, hb⟩
              have HB6 := Lib.hid (belows_then HB3.out HB3.out.size (belows_then HB5.out HB5.out.size hb))
              clear hb
              go_wp2_with fail
              go_ret
              exact ⟨rfl, HB6.out⟩
            · have HVM := Lib.hid (val_of HINC.out hpl2 hof)
              have HOF := Lib.hid hof
              clear hof
              go_wp2_with fail
              refine (of_val HVM.out oa oc _ HOS5.out).mono ?_
              rintro en w6 ⟨b2, rfl, hk, hb⟩
              have HB6 := Lib.hid (belows_then HB5.out HB5.out.size hb)
              have HX7 := Lib.hid (Sl.keep (fun k hk _ => hb.block k hk) HX6.out)
              have HY7 := Lib.hid (Sl.keep (fun k hk _ => hb.block k hk) HY6.out)
              have HK6 := Lib.hid (HK5.out.below hb)
              have HL6 := Lib.hid (HL5.out.below hb)
              have HM6 := Lib.hid hk
              clear hk hb HX6 HY6 HB5 HK5 HL5 HOS5
              go_wp2_with fail
              refine (tableF_any HK6.out HL6.out HM6.out).mono ?_
              rintro en w7 ⟨v8, v9, rfl, ho, hc, hb⟩
              have HPP := Lib.hid (HPL.out HVM.out)
              rw [HPP.out.1] at hc
              have HB7 := Lib.hid (belows_then HB6.out HB6.out.size hb)
              have HX8 := Lib.hid (Sl.keep (fun k hk _ => hb.block k hk) HX7.out)
              have HY8 := Lib.hid (Sl.keep (fun k hk _ => hb.block k hk) HY7.out)
              have HT := Lib.hid HPP.out.2
              obtain ⟨q8, p8, rfl, ht1, ht2, hs⟩ := ho.slice
              have htl : (tabJ X Y P).length ≤ maxLen := Nat.le_trans ht1 ht2
              clear ht1 ht2
              generalize tabJ X Y P = T at *
              obtain ⟨q9, p9, rfl, _, _, _⟩ := hc.slice
              have HT7 := Lib.hid hs
              clear ho hc hs hb HB6 HX7 HY7 HK6 HL6 HM6 HPL HPP
              go_wp2_with fail
              go_loopw [22, 23, 24, 25, 26] (fun vi v23 v24 v25 v26 wi => ∃ (n : Nat), n ≤ Y.length ∧ vi = .int .i64 n ∧ Below w7.heap.size w7 wi) (fun vi _ _ _ _ _ => Y.length - (intOf vi).toNat)
              case atStart => exact ⟨0, Nat.zero_le _, rfl, Below.refl _ _⟩
              case round =>
                obtain ⟨n, hn, rfl, hb⟩ := hrel
                have HBR := Lib.hid hb
                clear hb
                by_cases hlt : n < Y.length
                · obtain ⟨ad, la, lc, rfl, hdl, hsx, hra⟩ := six_at (Sl.keep (fun k hk _ => HBR.out.block k hk) HY8.out) n hlt
                  obtain ⟨jx, hjx⟩ : ∃ j, getJ X Y[n].id = j := ⟨_, rfl⟩
                  obtain ⟨bx, hbx⟩ : ∃ j, hasJ X Y[n].id = j := ⟨_, rfl⟩
                  obtain ⟨s, hs⟩ : ∃ j, sameJ jx Y[n] = j := ⟨_, rfl⟩
                  have HFD : Hid (bx = false ∨ s = false → getJ T Y[n].id = Y[n] ∧ hasJ T Y[n].id = true) := Lib.hid (fun h => by
                    have h1 := HT.out Y[n] (List.getElem_mem hlt) (by rw [hbx, hjx, hs]; exact h)
                    exact ⟨find_getJ h1, hasJ_iff.2 ⟨_, List.mem_of_find?_eq_some h1, rfl⟩⟩)
                  have HJX := Lib.hid (And.intro hjx hbx)
                  have HS := Lib.hid hs
                  have HRA := Lib.hid hra
                  have HSX := Lib.hid hsx
                  obtain ⟨z0, z1, z2, z3, z4, z5⟩ := hsx
                  clear hjx hbx hs hra
                  generalize Y[n] = y at *
                  go_wp2_with fail
                  refine (rget_is X q0 p0 y.id wr (Sl.keep (fun k hk _ => HBR.out.block k hk) HX8.out) hmx HJX.out.1 HJX.out.2).mono ?_
                  rintro en w8 ⟨xa, xc, rfl, hb, hr⟩
                  have HB8 := Lib.hid (belows_then HBR.out HBR.out.size hb)
                  have HBQ : Hid (Below w7.heap.size w7 (w8.alloc (.cells #[.int .i64 jx.id, .int .i64 jx.en, .int .i64 jx.pe, .string jx.ref, .slice xa jx.lines.length xc, .bool jx.void] 31))) := Lib.hid (HB8.out.alloc HB8.out.size _)
                  have HRX4 := Lib.hid (tJn.keep (fun k hk _ => (Below.alloc (Below.refl w8.heap.size w8) (Nat.le_refl _) (.cells #[.int .i64 jx.id, .int .i64 jx.en, .int .i64 jx.pe, .string jx.ref, .slice xa jx.lines.length xc, .bool jx.void] 31)).block k hk) hr)
                  have HRA4 := Lib.hid (tJn.keep (fun k hk _ => hb.block k hk) HRA.out)
                  have HRA4 := Lib.hid (tJn.keep (fun k hk _ => (Below.alloc (Below.refl w8.heap.size w8) (Nat.le_refl _) (.cells #[.int .i64 jx.id, .int .i64 jx.en, .int .i64 jx.pe, .string jx.ref, .slice xa jx.lines.length xc, .bool jx.void] 31)).block k hk) HRA4.out)
                  have hdl4 : (ad.add (n * 6)).block < w8.heap.size := Nat.lt_of_lt_of_le hdl hb.size
                  have HS4 := Lib.hid ((HSX.out.keep hb hdl).keep (Below.alloc (Below.refl w8.heap.size w8) (Nat.le_refl _) (.cells #[.int .i64 jx.id, .int .i64 jx.en, .int .i64 jx.pe, .string jx.ref, .slice xa jx.lines.length xc, .bool jx.void] 31)) hdl4)
                  have HC8 := Lib.hid (blk_new w8 (.cells #[.int .i64 jx.id, .int .i64 jx.en, .int .i64 jx.pe, .string jx.ref, .slice xa jx.lines.length xc, .bool jx.void] 31))
                  have hdl5 : (ad.add (n * 6)).block < (w8.alloc (.cells #[.int .i64 jx.id, .int .i64 jx.en, .int .i64 jx.pe, .string jx.ref, .slice xa jx.lines.length xc, .bool jx.void] 31)).heap.size := by simp; omega
                  clear z0 z1 z2 z3 z4 z5 hb hr hdl4
                  go_wp2_with fail
                  refine abs_world (S := fun wx => Below w7.heap.size w7 wx ∧ Six wx (ad.add (n * 6)) y la lc ∧ wx.heap[w8.heap.size]? = some (.cells #[.int .i64 jx.id, .int .i64 jx.en, .int .i64 jx.pe, .string jx.ref, .slice xa jx.lines.length xc, .bool jx.void] 31 (0, 0)) ∧ tJn.R wx (fun _ => True) (jcs y la lc) y ∧ tJn.R wx (fun _ => True) (jcs jx xa xc) jx ∧ (ad.add (n * 6)).block < wx.heap.size) ?_ ⟨HBQ.out, HS4.out, HC8.out, HRA4.out, HRX4.out, hdl5⟩
                  clear HBQ HS4 HC8 HRA4 HRX4 hdl5 HB8 HSX HRA hdl
                  rintro wx ⟨hbx, hsx, hcx, hry, hrx, hdl⟩
                  have HBX := Lib.hid hbx
                  have HSA := Lib.hid hsx
                  have HSB := Lib.hid (six_blk hcx)
                  have HRY := Lib.hid hry
                  have HLA := Lib.hid (jcs_inv hry).2.2.2.2.1
                  have HLB := Lib.hid (jcs_inv hrx).2.2.2.2.1
                  have HNA := Lib.hid (Nat.le_trans (jcs_inv hry).2.2.2.2.2.1 (jcs_inv hry).2.2.2.2.2.2.1)
                  have HNB := Lib.hid (Nat.le_trans (jcs_inv hrx).2.2.2.2.2.1 (jcs_inv hrx).2.2.2.2.2.2.1)
                  have hel := blk_lt hcx
                  clear hbx hcx hrx hry
                  cases bx
                  · have HG := Lib.hid (HFD.out (.inl rfl))
                    clear HS HFD
                    obtain ⟨z0, z1, z2, z3, z4, z5⟩ := hsx
                    go_quiet (fail)
                    go_wp2_with fail
                    refine (rget_is T q8 p8 y.id _ (Sl.keep (fun k hk _ => (HBX.out.trans (Below.mono (below_drewN (Below.refl wx.heap.size wx) _) HBX.out.size)).block k hk) HT7.out) htl HG.out.1 HG.out.2).mono ?_
                    rintro en w9 ⟨ya, yc, rfl, hb, hr⟩
                    have hbw : Below wx.heap.size wx w9 := belows_then (below_drewN (Below.refl wx.heap.size wx) _) ((below_drewN (Below.refl wx.heap.size wx) _)).size hb
                    have HBY : Hid (Below w7.heap.size w7 (w9.alloc (.cells #[.int .i64 y.id, .int .i64 y.en, .int .i64 y.pe, .string y.ref, .slice ya y.lines.length yc, .bool y.void] 31))) := Lib.hid ((HBX.out.trans (hbw.mono HBX.out.size)).alloc (HBX.out.trans (hbw.mono HBX.out.size)).size _)
                    have hal := Below.alloc (Below.refl w9.heap.size w9) (Nat.le_refl _) (.cells #[.int .i64 y.id, .int .i64 y.en, .int .i64 y.pe, .string y.ref, .slice ya y.lines.length yc, .bool y.void] 31)
                    have HSW := Lib.hid ((HSA.out.keep hbw hdl).keep hal (Nat.lt_of_lt_of_le hdl hbw.size))
                    have HRW := Lib.hid (tJn.keep (fun k hk _ => hal.block k hk) (tJn.keep (fun k hk _ => hbw.block k hk) HRY.out))
                    have HRZ := Lib.hid (tJn.keep (fun k hk _ => hal.block k hk) hr)
                    have HCY := Lib.hid (blk_new w9 (.cells #[.int .i64 y.id, .int .i64 y.en, .int .i64 y.pe, .string y.ref, .slice ya y.lines.length yc, .bool y.void] 31))
                    have hdl9 : (ad.add (n * 6)).block < (w9.alloc (.cells #[.int .i64 y.id, .int .i64 y.en, .int .i64 y.pe, .string y.ref, .slice ya y.lines.length yc, .bool y.void] 31)).heap.size := by have := hbw.size; simp; omega
                    clear hb hr hbw hal
                    go_wp2_with fail
                    refine abs_world (S := fun wq => Below w7.heap.size w7 wq ∧ Six wq (ad.add (n * 6)) y la lc ∧ wq.heap[w9.heap.size]? = some (.cells #[.int .i64 y.id, .int .i64 y.en, .int .i64 y.pe, .string y.ref, .slice ya y.lines.length yc, .bool y.void] 31 (0, 0)) ∧ tJn.R wq (fun _ => True) (jcs y la lc) y ∧ tJn.R wq (fun _ => True) (jcs y ya yc) y ∧ (ad.add (n * 6)).block < wq.heap.size) ?_ ⟨HBY.out, HSW.out, HCY.out, HRW.out, HRZ.out, hdl9⟩
                    clear HBY HSW HCY HRW HRZ hdl9 HBX HSA HSB HRY HLA HLB HNA HNB hdl
                    rintro wx ⟨hbx, hsx, hcx, hry, hrx, hdl⟩
                    have HBX := Lib.hid hbx
                    have HSA := Lib.hid hsx
                    have HSB := Lib.hid (six_blk hcx)
                    have HLA := Lib.hid (jcs_inv hry).2.2.2.2.1
                    have HLB := Lib.hid (jcs_inv hrx).2.2.2.2.1
                    have HNA := Lib.hid (Nat.le_trans (jcs_inv hry).2.2.2.2.2.1 (jcs_inv hry).2.2.2.2.2.2.1)
                    have HNB := Lib.hid (Nat.le_trans (jcs_inv hrx).2.2.2.2.2.1 (jcs_inv hrx).2.2.2.2.2.2.1)
                    have hel := blk_lt hcx
                    clear hbx hsx hcx hrx hry
                    have hS : SX wx wx := SX.refl wx
                    go_region_held3 (fun w' => SX wx w' ∧ (w'.cell? (ad.add (n * 6)) = some (.int .i64 y.id) ∧ w'.cell? ⟨(ad.add (n * 6)).block, (ad.add (n * 6)).off + 1, none⟩ = some (.int .i64 y.en) ∧ w'.cell? ⟨(ad.add (n * 6)).block, (ad.add (n * 6)).off + 2, none⟩ = some (.int .i64 y.pe) ∧ w'.cell? ⟨(ad.add (n * 6)).block, (ad.add (n * 6)).off + 3, none⟩ = some (.string y.ref) ∧ w'.cell? ⟨(ad.add (n * 6)).block, (ad.add (n * 6)).off + 4, none⟩ = some (.slice la y.lines.length lc) ∧ w'.cell? ⟨(ad.add (n * 6)).block, (ad.add (n * 6)).off + 5, none⟩ = some (.bool y.void)) ∧ (w'.cell? ⟨w9.heap.size, 0, none⟩ = some (.int .i64 y.id) ∧ w'.cell? ⟨w9.heap.size, 1, none⟩ = some (.int .i64 y.en) ∧ w'.cell? ⟨w9.heap.size, 2, none⟩ = some (.int .i64 y.pe) ∧ w'.cell? ⟨w9.heap.size, 3, none⟩ = some (.string y.ref) ∧ w'.cell? ⟨w9.heap.size, 4, none⟩ = some (.slice ya y.lines.length yc) ∧ w'.cell? ⟨w9.heap.size, 5, none⟩ = some (.bool y.void))) (first | exact SX.all hdl hel HSA.out HSB.out (SX.drew (by assumption)) | exact SX.all hdl hel HSA.out HSB.out (SX.call (And.left (by assumption)) hb)) ((go_at_call 11; refine (rsame_any _ _ _ _ _ _ _ (by first | exact SX.lns (And.left (by assumption)) HLA.out | exact SX.lns (And.left (by assumption)) HLB.out) (by first | exact SX.lns (And.left (by assumption)) HLB.out | exact SX.lns (And.left (by assumption)) HLA.out) (by first | exact HNA.out | exact HNB.out) (by first | exact HNB.out | exact HNA.out) (sameJ_refl _)).mono ?_; rintro e w' ⟨rfl, hb⟩))
                    have hfin : SX wx w' := And.left (by assumption)
                    have HFIN := Lib.hid (HBX.out.trans (Below.mono (show Below wx.heap.size wx w' from hfin) HBX.out.size))
                    clear hS hfin hdl hel
                    go_wp2_with fail
                    go_roundw
                    case rel => exact ⟨n + 1, by omega, by go_num, HFIN.out⟩
                    case measure => simp [intOf]; omega
                  · cases s
                    · have HG := Lib.hid (HFD.out (.inr rfl))
                      clear HFD hsx
                      have hS : SX wx wx := SX.refl wx
                      go_region_held3 (fun w' => SX wx w' ∧ (w'.cell? (ad.add (n * 6)) = some (.int .i64 y.id) ∧ w'.cell? ⟨(ad.add (n * 6)).block, (ad.add (n * 6)).off + 1, none⟩ = some (.int .i64 y.en) ∧ w'.cell? ⟨(ad.add (n * 6)).block, (ad.add (n * 6)).off + 2, none⟩ = some (.int .i64 y.pe) ∧ w'.cell? ⟨(ad.add (n * 6)).block, (ad.add (n * 6)).off + 3, none⟩ = some (.string y.ref) ∧ w'.cell? ⟨(ad.add (n * 6)).block, (ad.add (n * 6)).off + 4, none⟩ = some (.slice la y.lines.length lc) ∧ w'.cell? ⟨(ad.add (n * 6)).block, (ad.add (n * 6)).off + 5, none⟩ = some (.bool y.void)) ∧ (w'.cell? ⟨w8.heap.size, 0, none⟩ = some (.int .i64 jx.id) ∧ w'.cell? ⟨w8.heap.size, 1, none⟩ = some (.int .i64 jx.en) ∧ w'.cell? ⟨w8.heap.size, 2, none⟩ = some (.int .i64 jx.pe) ∧ w'.cell? ⟨w8.heap.size, 3, none⟩ = some (.string jx.ref) ∧ w'.cell? ⟨w8.heap.size, 4, none⟩ = some (.slice xa jx.lines.length xc) ∧ w'.cell? ⟨w8.heap.size, 5, none⟩ = some (.bool jx.void))) (first | exact SX.all hdl hel HSA.out HSB.out (SX.drew (by assumption)) | exact SX.all hdl hel HSA.out HSB.out (SX.call (And.left (by assumption)) hb)) ((go_at_call 11; refine (rsame_any _ _ _ _ _ _ _ (by first | exact SX.lns (And.left (by assumption)) HLA.out | exact SX.lns (And.left (by assumption)) HLB.out) (by first | exact SX.lns (And.left (by assumption)) HLB.out | exact SX.lns (And.left (by assumption)) HLA.out) (by first | exact HNA.out | exact HNB.out) (by first | exact HNB.out | exact HNA.out) HS.out).mono ?_; rintro e w' ⟨rfl, hb⟩))
                      have hfin : Below wx.heap.size wx w' := And.left (by assumption)
                      obtain ⟨z0, z1, z2, z3, z4, z5⟩ := HSA.out.keep hfin hdl
                      have hdl6 := Nat.lt_of_lt_of_le hdl hfin.size
                      clear hS hel
                      go_wp2_with fail
                      refine (rget_is T q8 p8 y.id _ (Sl.keep (fun k hk _ => (HBX.out.trans (Below.mono hfin HBX.out.size)).block k hk) HT7.out) htl HG.out.1 HG.out.2).mono ?_
                      rintro en w9 ⟨ya, yc, rfl, hb, hr⟩
                      have hbw : Below wx.heap.size wx w9 := belows_then hfin (hfin).size hb
                      have HBY : Hid (Below w7.heap.size w7 (w9.alloc (.cells #[.int .i64 y.id, .int .i64 y.en, .int .i64 y.pe, .string y.ref, .slice ya y.lines.length yc, .bool y.void] 31))) := Lib.hid ((HBX.out.trans (hbw.mono HBX.out.size)).alloc (HBX.out.trans (hbw.mono HBX.out.size)).size _)
                      have hal := Below.alloc (Below.refl w9.heap.size w9) (Nat.le_refl _) (.cells #[.int .i64 y.id, .int .i64 y.en, .int .i64 y.pe, .string y.ref, .slice ya y.lines.length yc, .bool y.void] 31)
                      have HSW := Lib.hid ((HSA.out.keep hbw hdl).keep hal (Nat.lt_of_lt_of_le hdl hbw.size))
                      have HRW := Lib.hid (tJn.keep (fun k hk _ => hal.block k hk) (tJn.keep (fun k hk _ => hbw.block k hk) HRY.out))
                      have HRZ := Lib.hid (tJn.keep (fun k hk _ => hal.block k hk) hr)
                      have HCY := Lib.hid (blk_new w9 (.cells #[.int .i64 y.id, .int .i64 y.en, .int .i64 y.pe, .string y.ref, .slice ya y.lines.length yc, .bool y.void] 31))
                      have hdl9 : (ad.add (n * 6)).block < (w9.alloc (.cells #[.int .i64 y.id, .int .i64 y.en, .int .i64 y.pe, .string y.ref, .slice ya y.lines.length yc, .bool y.void] 31)).heap.size := by have := hbw.size; simp; omega
                      clear hb hr hbw hal
                      go_wp2_with fail
                      refine abs_world (S := fun wq => Below w7.heap.size w7 wq ∧ Six wq (ad.add (n * 6)) y la lc ∧ wq.heap[w9.heap.size]? = some (.cells #[.int .i64 y.id, .int .i64 y.en, .int .i64 y.pe, .string y.ref, .slice ya y.lines.length yc, .bool y.void] 31 (0, 0)) ∧ tJn.R wq (fun _ => True) (jcs y la lc) y ∧ tJn.R wq (fun _ => True) (jcs y ya yc) y ∧ (ad.add (n * 6)).block < wq.heap.size) ?_ ⟨HBY.out, HSW.out, HCY.out, HRW.out, HRZ.out, hdl9⟩
                      clear HBY HSW HCY HRW HRZ hdl9 HBX HSA HSB HRY HLA HLB HNA HNB hdl
                      rintro wx ⟨hbx, hsx, hcx, hry, hrx, hdl⟩
                      have HBX := Lib.hid hbx
                      have HSA := Lib.hid hsx
                      have HSB := Lib.hid (six_blk hcx)
                      have HLA := Lib.hid (jcs_inv hry).2.2.2.2.1
                      have HLB := Lib.hid (jcs_inv hrx).2.2.2.2.1
                      have HNA := Lib.hid (Nat.le_trans (jcs_inv hry).2.2.2.2.2.1 (jcs_inv hry).2.2.2.2.2.2.1)
                      have HNB := Lib.hid (Nat.le_trans (jcs_inv hrx).2.2.2.2.2.1 (jcs_inv hrx).2.2.2.2.2.2.1)
                      have hel := blk_lt hcx
                      clear hbx hsx hcx hrx hry
                      have hS : SX wx wx := SX.refl wx
                      go_region_held3 (fun w' => SX wx w' ∧ (w'.cell? (ad.add (n * 6)) = some (.int .i64 y.id) ∧ w'.cell? ⟨(ad.add (n * 6)).block, (ad.add (n * 6)).off + 1, none⟩ = some (.int .i64 y.en) ∧ w'.cell? ⟨(ad.add (n * 6)).block, (ad.add (n * 6)).off + 2, none⟩ = some (.int .i64 y.pe) ∧ w'.cell? ⟨(ad.add (n * 6)).block, (ad.add (n * 6)).off + 3, none⟩ = some (.string y.ref) ∧ w'.cell? ⟨(ad.add (n * 6)).block, (ad.add (n * 6)).off + 4, none⟩ = some (.slice la y.lines.length lc) ∧ w'.cell? ⟨(ad.add (n * 6)).block, (ad.add (n * 6)).off + 5, none⟩ = some (.bool y.void)) ∧ (w'.cell? ⟨w9.heap.size, 0, none⟩ = some (.int .i64 y.id) ∧ w'.cell? ⟨w9.heap.size, 1, none⟩ = some (.int .i64 y.en) ∧ w'.cell? ⟨w9.heap.size, 2, none⟩ = some (.int .i64 y.pe) ∧ w'.cell? ⟨w9.heap.size, 3, none⟩ = some (.string y.ref) ∧ w'.cell? ⟨w9.heap.size, 4, none⟩ = some (.slice ya y.lines.length yc) ∧ w'.cell? ⟨w9.heap.size, 5, none⟩ = some (.bool y.void))) (first | exact SX.all hdl hel HSA.out HSB.out (SX.drew (by assumption)) | exact SX.all hdl hel HSA.out HSB.out (SX.call (And.left (by assumption)) hb)) ((go_at_call 11; refine (rsame_any _ _ _ _ _ _ _ (by first | exact SX.lns (And.left (by assumption)) HLA.out | exact SX.lns (And.left (by assumption)) HLB.out) (by first | exact SX.lns (And.left (by assumption)) HLB.out | exact SX.lns (And.left (by assumption)) HLA.out) (by first | exact HNA.out | exact HNB.out) (by first | exact HNB.out | exact HNA.out) (sameJ_refl _)).mono ?_; rintro e w' ⟨rfl, hb⟩))
                      have hfin : SX wx w' := And.left (by assumption)
                      have HFIN := Lib.hid (HBX.out.trans (Below.mono (show Below wx.heap.size wx w' from hfin) HBX.out.size))
                      clear hS hfin hdl hel
                      go_wp2_with fail
                      go_roundw
                      case rel => exact ⟨n + 1, by omega, by go_num, HFIN.out⟩
                      case measure => simp [intOf]; omega
                    · clear HFD hsx
                      have hS : SX wx wx := SX.refl wx
                      go_region_held3 (fun w' => SX wx w' ∧ (w'.cell? (ad.add (n * 6)) = some (.int .i64 y.id) ∧ w'.cell? ⟨(ad.add (n * 6)).block, (ad.add (n * 6)).off + 1, none⟩ = some (.int .i64 y.en) ∧ w'.cell? ⟨(ad.add (n * 6)).block, (ad.add (n * 6)).off + 2, none⟩ = some (.int .i64 y.pe) ∧ w'.cell? ⟨(ad.add (n * 6)).block, (ad.add (n * 6)).off + 3, none⟩ = some (.string y.ref) ∧ w'.cell? ⟨(ad.add (n * 6)).block, (ad.add (n * 6)).off + 4, none⟩ = some (.slice la y.lines.length lc) ∧ w'.cell? ⟨(ad.add (n * 6)).block, (ad.add (n * 6)).off + 5, none⟩ = some (.bool y.void)) ∧ (w'.cell? ⟨w8.heap.size, 0, none⟩ = some (.int .i64 jx.id) ∧ w'.cell? ⟨w8.heap.size, 1, none⟩ = some (.int .i64 jx.en) ∧ w'.cell? ⟨w8.heap.size, 2, none⟩ = some (.int .i64 jx.pe) ∧ w'.cell? ⟨w8.heap.size, 3, none⟩ = some (.string jx.ref) ∧ w'.cell? ⟨w8.heap.size, 4, none⟩ = some (.slice xa jx.lines.length xc) ∧ w'.cell? ⟨w8.heap.size, 5, none⟩ = some (.bool jx.void))) (first | exact SX.all hdl hel HSA.out HSB.out (SX.drew (by assumption)) | exact SX.all hdl hel HSA.out HSB.out (SX.call (And.left (by assumption)) hb)) ((go_at_call 11; refine (rsame_any _ _ _ _ _ _ _ (by first | exact SX.lns (And.left (by assumption)) HLA.out | exact SX.lns (And.left (by assumption)) HLB.out) (by first | exact SX.lns (And.left (by assumption)) HLB.out | exact SX.lns (And.left (by assumption)) HLA.out) (by first | exact HNA.out | exact HNB.out) (by first | exact HNB.out | exact HNA.out) HS.out).mono ?_; rintro e w' ⟨rfl, hb⟩))
                      have hfin : SX wx w' := And.left (by assumption)
                      have HFIN := Lib.hid (HBX.out.trans (Below.mono (show Below wx.heap.size wx w' from hfin) HBX.out.size))
                      clear hS hfin hdl hel
                      go_wp2_with fail
                      go_roundw
                      case rel => exact ⟨n + 1, by omega, by go_num, HFIN.out⟩
                      case measure => simp [intOf]; omega
                · have HFIN := Lib.hid (HB3.out.trans ((HB7.out.trans (HBR.out.mono HB7.out.size)).mono HB3.out.size))
                  go_wp2_with fail
                  go_ret
                  exact ⟨rfl, HFIN.out⟩
end Go.Proofs.Ytogikjnfmcfbmaa
