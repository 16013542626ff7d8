/- The document's SetGate. -/
import Derived.Test.YtacemlbfifhllaaGreatX40GatesPlay
import Derived.Test.YtacemlbfifhllaaGreatX35GatesPlay
set_option linter.unusedVariables false
set_option linter.unusedSimpArgs false
namespace Go.Proofs.YtacemlbfifhllaaGreat
open Go.RowKit Go.Maps Go.Deep

theorem ref_cases (R : List Gt) (e p s : Int) :
    (e < 1 ∧ gSetE R (e, p, s) = 1) ∨ (1 ≤ e ∧ 9 < e ∧ gSetE R (e, p, s) = 1) ∨ (1 ≤ e ∧ e ≤ 9 ∧ ((monthOk p = false ∧ gSetE R (e, p, s) = 1) ∨ (monthOk p = true ∧ ((s < 0 ∧ gSetE R (e, p, s) = 1) ∨ (0 ≤ s ∧ 2 < s ∧ gSetE R (e, p, s) = 1) ∨ (0 ≤ s ∧ s ≤ 2 ∧ gSetE R (e, p, s) = if refSt R e p == 2 || s == 2 && refSt R e p != 1 then 11 else 0))))) := by
  unfold gSetE
  simp only
  rcases place_cases e p with ⟨h1, h2⟩ | ⟨h1, h2, h3⟩ | ⟨h1, h2, h3⟩
  · exact .inl ⟨h1, by simp [h2]⟩
  · exact .inr (.inl ⟨h1, h2, by simp [h3]⟩)
  · refine .inr (.inr ⟨h1, h2, ?_⟩)
    cases hm : monthOk p
    · exact .inl ⟨rfl, by simp [h3, hm]⟩
    · refine .inr ⟨rfl, ?_⟩
      rcases (show s < 0 ∨ (0 ≤ s ∧ 2 < s) ∨ (0 ≤ s ∧ s ≤ 2) by omega) with h | ⟨h, h4⟩ | ⟨h, h4⟩
      · exact .inl ⟨h, by simp [h]⟩
      · exact .inr (.inl ⟨h, h4, by simp [h4]⟩)
      · refine .inr (.inr ⟨h, h4, ?_⟩)
        have a1 : ¬ s < 0 := by omega
        have a2 : ¬ 2 < s := by omega
        simp [h3, hm, a1, a2]
theorem aft_cases (y x : Gt) : (x.1 < y.1 ∧ aftB y x = true ∧ othB y x = true) ∨ (¬ x.1 < y.1 ∧ y.1 = x.1 ∧ ((x.2.1 < y.2.1 ∧ aftB y x = true ∧ othB y x = true) ∨ (¬ x.2.1 < y.2.1 ∧ y.2.1 = x.2.1 ∧ aftB y x = false ∧ othB y x = false) ∨ (¬ x.2.1 < y.2.1 ∧ ¬ y.2.1 = x.2.1 ∧ aftB y x = false ∧ othB y x = true))) ∨ (¬ x.1 < y.1 ∧ ¬ y.1 = x.1 ∧ aftB y x = false ∧ othB y x = true) := by
  unfold aftB othB
  rcases (show x.1 < y.1 ∨ (¬ x.1 < y.1 ∧ y.1 = x.1) ∨ (¬ x.1 < y.1 ∧ ¬ y.1 = x.1) by omega) with h | ⟨h, h2⟩ | ⟨h, h2⟩
  · refine .inl ⟨h, by simp [h], ?_⟩
    have : ¬ y.1 = x.1 := by omega
    simp [this]
  · refine .inr (.inl ⟨h, h2, ?_⟩)
    rcases (show x.2.1 < y.2.1 ∨ (¬ x.2.1 < y.2.1 ∧ y.2.1 = x.2.1) ∨ (¬ x.2.1 < y.2.1 ∧ ¬ y.2.1 = x.2.1) by omega) with h3 | ⟨h3, h4⟩ | ⟨h3, h4⟩
    · have : ¬ y.2.1 = x.2.1 := by omega
      exact .inl ⟨h3, by simp [h2, h3], by simp [this]⟩
    · exact .inr (.inl ⟨h3, h4, by simp [h2, h4], by simp [h2, h4]⟩)
    · exact .inr (.inr ⟨h3, h4, by simp [h2, h3], by simp [h4]⟩)
  · exact .inr (.inr ⟨h, h2, by simp [h, h2], by simp [h2]⟩)
theorem sg_len {O : List Gt} (h : O.length ≤ 2000) (x : Gt) : O.length + [x].length ≤ maxLen ∧ (O.length + [x].length) * 24 ≤ 140737488355328 := by
  rw [show [x].length = 1 from rfl]
  unfold maxLen
  omega
theorem sg_len2 {O : List Gt} (h : O.length ≤ 2000) (x y : Gt) : (O ++ [x]).length + [y].length ≤ maxLen ∧ ((O ++ [x]).length + [y].length) * 24 ≤ 140737488355328 := by
  rw [List.length_append, show [x].length = 1 from rfl, show [y].length = 1 from rfl]
  unfold maxLen
  omega
/-- what SetGate tells: a list that is new, or the old one, and the error -/
def SgP (w : World) (R : List Gt) (ra : Option Addr) (rc : Nat) (x : Gt) (en : Ending) (w' : World) : Prop :=
  (∃ v, en = .returned (.tuple #[v, .int .i64 (gSetE R x)]) ∧ ((gSetE R x = 0 ∧ OwnL tGate w' w.heap.size v (gSetR R x)) ∨ (gSetE R x ≠ 0 ∧ v = .slice ra R.length rc))) ∧ Below w.heap.size w w'

set_option maxHeartbeats 8000000 in
set_option maxRecDepth 100000 in
theorem rSetGate_any (R : List Gt) (ra : Option Addr) (rc : Nat) (w : World) {F : Nat → Prop} (hs : Sl tGate w F ra R) (hl : R.length ≤ 1000) (e p s : Int) (he : I64 e) (hp : I64 p) (hs6 : I64 s) :
    Calls Tryz.prog 7 #[.slice ra R.length rc, .agg #[.int .i64 e, .int .i64 p, .int .i64 s]] w (SgP w R ra rc (e, p, s)) := by
  have HX0 := Lib.hid (blk_new w (.cells #[.int .i64 e, .int .i64 p, .int .i64 s] 50))
  have hcx := blk_cells HX0.out
  have HB0 := Lib.hid ((Below.refl w.heap.size w).alloc (Nat.le_refl _) (.cells #[.int .i64 e, .int .i64 p, .int .i64 s] 50))
  have HS0 := Lib.hid (Sl.keep (fun k hk _ => HB0.out.block k hk) hs)
  have HI := Lib.hid (And.intro he (And.intro hp hs6))
  have hl' : R.length ≤ 9223372036854775807 := by omega
  clear hs he hp hs6
  rcases ref_cases R e p s with ⟨h1, hE⟩ | ⟨h1, h2, hE⟩ | ⟨h1, h2, ⟨hm, hE⟩ | ⟨hm, ⟨h3, hE⟩ | ⟨h3, h4, hE⟩ | ⟨h3, h4, hE⟩⟩⟩
  · have HE := Lib.hid hE
    clear hE
    go_enter Tryz.func7, Tryz.ntmps7
    go_wp2_with fail
    go_ret2
    exact ⟨⟨.slice ra R.length rc, by rw [HE.out]; rfl, .inr ⟨by rw [HE.out]; decide, rfl⟩⟩, HB0.out⟩
  · have HE := Lib.hid hE
    clear hE
    go_enter Tryz.func7, Tryz.ntmps7
    go_wp2_with fail
    go_ret2
    exact ⟨⟨.slice ra R.length rc, by rw [HE.out]; rfl, .inr ⟨by rw [HE.out]; decide, rfl⟩⟩, HB0.out⟩
  all_goals
    have HE := Lib.hid hE
    have HM := Lib.hid (ref_valid_is p hm (w.alloc (.cells #[.int .i64 e, .int .i64 p, .int .i64 s] 50)))
    clear hE hm
    go_enter Tryz.func7, Tryz.ntmps7
    go_wp2_with fail
    refine HM.out.mono ?_
    rintro en w1 ⟨rfl, hb⟩
    have HB1 := Lib.hid (belows_then HB0.out (by simp) hb)
    have HX1 := Lib.hid (blk_below HX0.out hb)
    have hcx1 := blk_cells HX1.out
    have HS1 := Lib.hid (Sl.keep (fun k hk _ => hb.block k hk) HS0.out)
    clear hb HM hcx HS0
  · go_wp2_with fail
    go_ret2
    exact ⟨⟨.slice ra R.length rc, by rw [HE.out]; rfl, .inr ⟨by rw [HE.out]; decide, rfl⟩⟩, HB1.out⟩
  · go_wp2_with fail
    go_ret2
    exact ⟨⟨.slice ra R.length rc, by rw [HE.out]; rfl, .inr ⟨by rw [HE.out]; decide, rfl⟩⟩, HB1.out⟩
  · go_wp2_with fail
    go_ret2
    exact ⟨⟨.slice ra R.length rc, by rw [HE.out]; rfl, .inr ⟨by rw [HE.out]; decide, rfl⟩⟩, HB1.out⟩
  · obtain ⟨q, hq⟩ : ∃ q, refSt R e p = q := ⟨_, rfl⟩
    have HC := Lib.hid (rState_is R ra rc w1 HS1.out (by omega) e p hq)
    rw [hq] at HE
    clear hq
    go_wp2_with fail
    refine HC.out.mono ?_
    rintro en w2 ⟨rfl, hb⟩
    have HB2 := Lib.hid (belows_then HB1.out HB1.out.size hb)
    have HX2 := Lib.hid (blk_below HX1.out hb)
    have hcx2 := blk_cells HX2.out
    have HS2 := Lib.hid (Sl.keep (fun k hk _ => hb.block k hk) HS1.out)
    have hwl : w.heap.size < w2.heap.size := blk_lt HX2.out
    clear hb HC hcx1 HB1 HX1 HS1
    rcases (show (q = 2) ∨ (¬ q = 2 ∧ ((s = 2 ∧ (¬ q = 1)) ∨ ((s = 2 ∧ q = 1) ∨ ¬ s = 2))) by omega) with hq2 | ⟨hq2, ⟨hs2, hq1⟩ | hok⟩
    · have hq2' : (q == 2) = true := by simpa using hq2
      have HF : Hid (gSetE R (e, p, s) = 11) := Lib.hid (by rw [HE.out]; simp [hq2])
      clear hq2
      go_wp2_with fail
      go_ret2
      exact ⟨⟨.slice ra R.length rc, by rw [HF.out]; rfl, .inr ⟨by rw [HF.out]; decide, rfl⟩⟩, HB2.out⟩
    · have hq2' : (q == 2) = false := by simpa using hq2
      have hs2' : (s == 2) = true := by simpa using hs2
      have hq1' : (q != 1) = true := by simpa using hq1
      have HF : Hid (gSetE R (e, p, s) = 11) := Lib.hid (by rw [HE.out]; simp [hs2, hq1])
      clear hq2 hs2 hq1
      go_wp2_with fail
      go_ret2
      exact ⟨⟨.slice ra R.length rc, by rw [HF.out]; rfl, .inr ⟨by rw [HF.out]; decide, rfl⟩⟩, HB2.out⟩
    · have hq2' : (q == 2) = false := by simpa using hq2
      have HF : Hid (gSetE R (e, p, s) = 0) := Lib.hid (by
        rw [HE.out]
        rcases hok with ⟨h5, h6⟩ | h5
        · simp [h5, h6]
        · simp [hq2, h5])
      obtain ⟨b2, b1, hb2, hb1, hcs⟩ : ∃ b2 b1, (s == 2) = b2 ∧ (q != 1) = b1 ∧ (b2 = false ∨ b2 = true ∧ b1 = false) := ⟨_, _, rfl, rfl, by
        rcases hok with ⟨h5, h6⟩ | h5
        · exact .inr ⟨by simp [h5], by simp [h6]⟩
        · exact .inl (by simpa using h5)⟩
      clear hok hq2
      rcases hcs with rfl | ⟨rfl, rfl⟩
      all_goals
       go_wp2_with fail
       clear hcx2
       obtain ⟨i0, hi0, hz0, hz1, hz2⟩ := info_parts infoGate
       go_loopw [7, 8, 9, 10, 11] (fun v7 v8 v9 v10 v11 wr => ∃ (n : Nat) (vx : Value), vx = v7 ∧ n ≤ R.length ∧ v9 = .int .i64 n ∧ v8 = .bool (sgFold (e, p, s) (R.take n)).2 ∧ OwnL tGate wr w2.heap.size vx (sgFold (e, p, s) (R.take n)).1 ∧ Below w2.heap.size w2 wr) (fun _ _ v9 _ _ _ => R.length - (Go.RowKit.intOf v9).toNat)
       case atStart => exact ⟨0, _, rfl, Nat.zero_le _, rfl, rfl, OwnL.nil _ _, Below.refl _ _⟩
       case round =>
         obtain ⟨n, vo, rfl, hn, rfl, rfl, ho, hb⟩ := hrel
         have HO := Lib.hid ho
         have HB := Lib.hid hb
         have hlen := sgFold_len (e, p, s) (R.take n) ([], s == 0)
         change (sgFold (e, p, s) (R.take n)).1.length ≤ _ at hlen
         rw [List.length_take] at hlen
         have hxl : w.heap.size < wr.heap.size := Nat.lt_of_lt_of_le hwl hb.size
         have HXR := Lib.hid ((hb.block w.heap.size hwl).trans HX2.out)
         have HALL : Hid (n = R.length → gSetR R (e, p, s) = if (sgFold (e, p, s) (R.take n)).2 then (sgFold (e, p, s) (R.take n)).1 else (sgFold (e, p, s) (R.take n)).1 ++ [(e, p, s)]) := Lib.hid (fun h => by rw [h, List.take_length]; rfl)
         have HSUC := Lib.hid (fun h => sgFold_succ (e, p, s) R n h)
         clear ho hb
         obtain ⟨⟨O, d⟩, hOd⟩ : ∃ st, sgFold (e, p, s) (R.take n) = st := ⟨_, rfl⟩
         rw [hOd] at HO HALL hlen HSUC ⊢
         simp only at HO HALL hlen ⊢
         clear hOd
         have hlen2 : O.length ≤ 2000 := by simp at hlen; omega
         clear hlen
         by_cases hlt : n < R.length
         · obtain ⟨ad, rfl, _, hadl, hc0, hc1, hc2, g1, g2, g3⟩ := gate_at (Sl.keep (fun k hk _ => HB.out.block k hk) HS2.out) n hlt
           have HSU := Lib.hid (HSUC.out hlt)
           obtain ⟨⟨y1, y2, y3⟩, hy⟩ : ∃ y, R[n] = y := ⟨_, rfl⟩
           rw [hy] at hc0 hc1 hc2 g1 g2 g3 HSU
           simp only at hc0 hc1 hc2 g1 g2 g3
           have HYI := Lib.hid (And.intro g1 (And.intro g2 g3))
           have HY := Lib.hid (blk_new wr (.cells #[.int .i64 y1, .int .i64 y2, .int .i64 y3] 50))
           have hcy := blk_cells HY.out
           have HXY := Lib.hid (blk_alloc HXR.out (.cells #[.int .i64 y1, .int .i64 y2, .int .i64 y3] 50))
           have hcx := blk_cells HXY.out
           have HVX : Hid (some w.heap.size ≠ vo.ownBlock) := Lib.hid (fun e => by have := (HO.out.lt _ e.symm).1; omega)
           have HVY : Hid (some wr.heap.size ≠ vo.ownBlock) := Lib.hid (fun e => by have := (HO.out.lt _ e.symm).2; omega)
           have HBY := Lib.hid (HB.out.alloc HB.out.size (.cells #[.int .i64 y1, .int .i64 y2, .int .i64 y3] 50))
           have HOX := Lib.hid ((HO.out.alloc (.cells #[.int .i64 y1, .int .i64 y2, .int .i64 y3] 50)).alloc (.cells #[.int .i64 e, .int .i64 p, .int .i64 s] 50))
           have HBX := Lib.hid (HBY.out.alloc HBY.out.size (.cells #[.int .i64 e, .int .i64 p, .int .i64 s] 50))
           have HOZ := Lib.hid ((HO.out.alloc (.cells #[.int .i64 y1, .int .i64 y2, .int .i64 y3] 50)).alloc (.cells #[.int .i64 y1, .int .i64 y2, .int .i64 y3] 50))
           have HBZ := Lib.hid (HBY.out.alloc HBY.out.size (.cells #[.int .i64 y1, .int .i64 y2, .int .i64 y3] 50))
           have HNX : Hid (((wr.alloc (.cells #[.int .i64 y1, .int .i64 y2, .int .i64 y3] 50)).alloc (.cells #[.int .i64 e, .int .i64 p, .int .i64 s] 50)).heap[wr.heap.size + 1]? = some (.cells #[.int .i64 e, .int .i64 p, .int .i64 s] 50 (0, 0))) := Lib.hid (by have := blk_new (wr.alloc (.cells #[.int .i64 y1, .int .i64 y2, .int .i64 y3] 50)) (.cells #[.int .i64 e, .int .i64 p, .int .i64 s] 50); simpa using this)
           have HNZ : Hid (((wr.alloc (.cells #[.int .i64 y1, .int .i64 y2, .int .i64 y3] 50)).alloc (.cells #[.int .i64 y1, .int .i64 y2, .int .i64 y3] 50)).heap[wr.heap.size + 1]? = some (.cells #[.int .i64 y1, .int .i64 y2, .int .i64 y3] 50 (0, 0))) := Lib.hid (by have := blk_new (wr.alloc (.cells #[.int .i64 y1, .int .i64 y2, .int .i64 y3] 50)) (.cells #[.int .i64 y1, .int .i64 y2, .int .i64 y3] 50); simpa using this)
           have HSX : Hid (Sl tGate ((wr.alloc (.cells #[.int .i64 y1, .int .i64 y2, .int .i64 y3] 50)).alloc (.cells #[.int .i64 e, .int .i64 p, .int .i64 s] 50)) (fun kk => some kk ≠ vo.ownBlock ∧ kk < ((wr.alloc (.cells #[.int .i64 y1, .int .i64 y2, .int .i64 y3] 50)).alloc (.cells #[.int .i64 e, .int .i64 p, .int .i64 s] 50)).heap.size) (some ⟨wr.heap.size + 1, 0, none⟩) [((e, p, s) : Int × Int × Int)]) := Lib.hid (sl_oneG (x := (e, p, s)) HNX.out ⟨fun e => by have := (HO.out.lt _ e.symm).2; omega, by simp⟩ (gate_mk _ HI.out.1 HI.out.2.1 HI.out.2.2))
           have HSZ : Hid (Sl tGate ((wr.alloc (.cells #[.int .i64 y1, .int .i64 y2, .int .i64 y3] 50)).alloc (.cells #[.int .i64 y1, .int .i64 y2, .int .i64 y3] 50)) (fun kk => some kk ≠ vo.ownBlock ∧ kk < ((wr.alloc (.cells #[.int .i64 y1, .int .i64 y2, .int .i64 y3] 50)).alloc (.cells #[.int .i64 y1, .int .i64 y2, .int .i64 y3] 50)).heap.size) (some ⟨wr.heap.size + 1, 0, none⟩) [((y1, y2, y3) : Int × Int × Int)]) := Lib.hid (sl_oneG (x := (y1, y2, y3)) HNZ.out ⟨fun e => by have := (HO.out.lt _ e.symm).2; omega, by simp⟩ (gate_mk _ HYI.out.1 HYI.out.2.1 HYI.out.2.2))
           obtain ⟨h63, hby⟩ := sg_len hlen2 (e, p, s)
           obtain ⟨h63y, hbyy⟩ := sg_len hlen2 (y1, y2, y3)
           obtain ⟨h63b, hbyb⟩ := sg_len2 hlen2 (e, p, s) (y1, y2, y3)
           clear g1 g2 g3 hy HSUC HALL HXR
           rcases aft_cases (y1, y2, y3) (e, p, s) with ⟨t1, ha, ho⟩ | ⟨t1, t2, ⟨t3, ha, ho⟩ | ⟨t3, t4, ha, ho⟩ | ⟨t3, t4, ha, ho⟩⟩ | ⟨t1, t2, ha, ho⟩
           · skip
             simp only at t1
             have u1 : (y1 != e) = true := by have : ¬ y1 = e := (by omega); simpa using this
             cases d
             · skip
               have HN : Hid (sgFold (e, p, s) (R.take (n + 1)) = ((O ++ [((e, p, s) : Int × Int × Int)]) ++ [((y1, y2, y3) : Int × Int × Int)], true)) := Lib.hid (by rw [HSU.out]; simp [sgStep, ha, ho])
               clear ha ho
               go_wp2_with (first | (at_builtin; refine wp_app (T := tGate) rfl _ _ 28 rfl i0 (.agg #[.int .i64 0, .int .i64 0, .int .i64 0]) 24 Tryz.underlying28 hi0 hz0 hz1 hz2 rfl (by decide) gate_one w2.heap.size vo O rfl HOX.out ⟨wr.heap.size + 1, 0, none⟩ 1 [((e, p, s) : Int × Int × Int)] rfl HSX.out h63 hby HBX.out.size ?_; intro v5 w5 hown hg hnil hat; have HO5 := Lib.hid hown; have HB5 := Lib.hid (Below.grown HBX.out hg HBX.out.size (fun k e => (HOX.out.lt k e).1)); have HY5 := Lib.hid ((hg.block wr.heap.size (by simp; omega) HVY.out).trans (blk_alloc HY.out (.cells #[.int .i64 e, .int .i64 p, .int .i64 s] 50))); have hcy5 := blk_cells HY5.out; have hwl5 := blk_lt HY5.out; have HOY5 := Lib.hid (hown.alloc (.cells #[.int .i64 y1, .int .i64 y2, .int .i64 y3] 50)); have HBY5 := Lib.hid (HB5.out.alloc HB5.out.size (.cells #[.int .i64 y1, .int .i64 y2, .int .i64 y3] 50)); have HSY5 : Hid (Sl tGate (w5.alloc (.cells #[.int .i64 y1, .int .i64 y2, .int .i64 y3] 50)) (fun kk => some kk ≠ v5.ownBlock ∧ kk < (w5.alloc (.cells #[.int .i64 y1, .int .i64 y2, .int .i64 y3] 50)).heap.size) (some ⟨w5.heap.size, 0, none⟩) [((y1, y2, y3) : Int × Int × Int)]) := Lib.hid (sl_oneG (x := (y1, y2, y3)) (blk_new w5 _) ⟨fun e => by have := (HO5.out.lt _ e.symm).2; omega, by simp⟩ (gate_mk _ HYI.out.1 HYI.out.2.1 HYI.out.2.2)); have HX5 := Lib.hid ((hg.block w.heap.size (by simp; omega) HVX.out).trans (blk_alloc HXY.out (.cells #[.int .i64 e, .int .i64 p, .int .i64 s] 50))); have hcx5 := blk_cells HX5.out; clear hown hg hnil hat) | (at_builtin; refine wp_app (T := tGate) rfl _ _ 28 rfl i0 (.agg #[.int .i64 0, .int .i64 0, .int .i64 0]) 24 Tryz.underlying28 hi0 hz0 hz1 hz2 rfl (by decide) gate_one w2.heap.size v5 (O ++ [((e, p, s) : Int × Int × Int)]) rfl HOY5.out ⟨w5.heap.size, 0, none⟩ 1 [((y1, y2, y3) : Int × Int × Int)] rfl HSY5.out h63b hbyb HBY5.out.size ?_; intro v6 w6 hown hg hnil hat; have HO6 := Lib.hid hown; have HB6 := Lib.hid (Below.grown HBY5.out hg HBY5.out.size (fun k e => (HOY5.out.lt k e).1)); clear hown hg hnil hat))
               go_roundw
               case rel => exact ⟨n + 1, _, rfl, by omega, by go_num, by rw [HN.out], by rw [HN.out]; exact HO6.out, HB6.out⟩
               case measure => simp [Go.RowKit.intOf]; omega
             · skip
               have HN : Hid (sgFold (e, p, s) (R.take (n + 1)) = (O ++ [((y1, y2, y3) : Int × Int × Int)], true)) := Lib.hid (by rw [HSU.out]; simp [sgStep, ha, ho])
               clear ha ho
               go_wp2_with (at_builtin; refine wp_app (T := tGate) rfl _ _ 28 rfl i0 (.agg #[.int .i64 0, .int .i64 0, .int .i64 0]) 24 Tryz.underlying28 hi0 hz0 hz1 hz2 rfl (by decide) gate_one w2.heap.size vo O rfl HOZ.out ⟨wr.heap.size + 1, 0, none⟩ 1 [((y1, y2, y3) : Int × Int × Int)] rfl HSZ.out h63y hbyy HBZ.out.size ?_; intro v6 w6 hown hg hnil hat; have HO6 := Lib.hid hown; have HB6 := Lib.hid (Below.grown HBZ.out hg HBZ.out.size (fun k e => (HOZ.out.lt k e).1)); clear hown hg hnil hat)
               go_roundw
               case rel => exact ⟨n + 1, _, rfl, by omega, by go_num, by rw [HN.out], by rw [HN.out]; exact HO6.out, HB6.out⟩
               case measure => simp [Go.RowKit.intOf]; omega
           · skip
             simp only at t1 t2 t3
             have u1 : (y1 == e) = true := by simpa using t2
             have u2 : (y1 != e) = false := by simpa using t2
             have u3 : (y2 != p) = true := by have : ¬ y2 = p := (by omega); simpa using this
             cases d
             · skip
               have HN : Hid (sgFold (e, p, s) (R.take (n + 1)) = ((O ++ [((e, p, s) : Int × Int × Int)]) ++ [((y1, y2, y3) : Int × Int × Int)], true)) := Lib.hid (by rw [HSU.out]; simp [sgStep, ha, ho])
               clear ha ho t2
               go_wp2_with (first | (at_builtin; refine wp_app (T := tGate) rfl _ _ 28 rfl i0 (.agg #[.int .i64 0, .int .i64 0, .int .i64 0]) 24 Tryz.underlying28 hi0 hz0 hz1 hz2 rfl (by decide) gate_one w2.heap.size vo O rfl HOX.out ⟨wr.heap.size + 1, 0, none⟩ 1 [((e, p, s) : Int × Int × Int)] rfl HSX.out h63 hby HBX.out.size ?_; intro v5 w5 hown hg hnil hat; have HO5 := Lib.hid hown; have HB5 := Lib.hid (Below.grown HBX.out hg HBX.out.size (fun k e => (HOX.out.lt k e).1)); have HY5 := Lib.hid ((hg.block wr.heap.size (by simp; omega) HVY.out).trans (blk_alloc HY.out (.cells #[.int .i64 e, .int .i64 p, .int .i64 s] 50))); have hcy5 := blk_cells HY5.out; have hwl5 := blk_lt HY5.out; have HOY5 := Lib.hid (hown.alloc (.cells #[.int .i64 y1, .int .i64 y2, .int .i64 y3] 50)); have HBY5 := Lib.hid (HB5.out.alloc HB5.out.size (.cells #[.int .i64 y1, .int .i64 y2, .int .i64 y3] 50)); have HSY5 : Hid (Sl tGate (w5.alloc (.cells #[.int .i64 y1, .int .i64 y2, .int .i64 y3] 50)) (fun kk => some kk ≠ v5.ownBlock ∧ kk < (w5.alloc (.cells #[.int .i64 y1, .int .i64 y2, .int .i64 y3] 50)).heap.size) (some ⟨w5.heap.size, 0, none⟩) [((y1, y2, y3) : Int × Int × Int)]) := Lib.hid (sl_oneG (x := (y1, y2, y3)) (blk_new w5 _) ⟨fun e => by have := (HO5.out.lt _ e.symm).2; omega, by simp⟩ (gate_mk _ HYI.out.1 HYI.out.2.1 HYI.out.2.2)); have HX5 := Lib.hid ((hg.block w.heap.size (by simp; omega) HVX.out).trans (blk_alloc HXY.out (.cells #[.int .i64 e, .int .i64 p, .int .i64 s] 50))); have hcx5 := blk_cells HX5.out; clear hown hg hnil hat) | (at_builtin; refine wp_app (T := tGate) rfl _ _ 28 rfl i0 (.agg #[.int .i64 0, .int .i64 0, .int .i64 0]) 24 Tryz.underlying28 hi0 hz0 hz1 hz2 rfl (by decide) gate_one w2.heap.size v5 (O ++ [((e, p, s) : Int × Int × Int)]) rfl HOY5.out ⟨w5.heap.size, 0, none⟩ 1 [((y1, y2, y3) : Int × Int × Int)] rfl HSY5.out h63b hbyb HBY5.out.size ?_; intro v6 w6 hown hg hnil hat; have HO6 := Lib.hid hown; have HB6 := Lib.hid (Below.grown HBY5.out hg HBY5.out.size (fun k e => (HOY5.out.lt k e).1)); clear hown hg hnil hat))
               go_roundw
               case rel => exact ⟨n + 1, _, rfl, by omega, by go_num, by rw [HN.out], by rw [HN.out]; exact HO6.out, HB6.out⟩
               case measure => simp [Go.RowKit.intOf]; omega
             · skip
               have HN : Hid (sgFold (e, p, s) (R.take (n + 1)) = (O ++ [((y1, y2, y3) : Int × Int × Int)], true)) := Lib.hid (by rw [HSU.out]; simp [sgStep, ha, ho])
               clear ha ho t2
               go_wp2_with (at_builtin; refine wp_app (T := tGate) rfl _ _ 28 rfl i0 (.agg #[.int .i64 0, .int .i64 0, .int .i64 0]) 24 Tryz.underlying28 hi0 hz0 hz1 hz2 rfl (by decide) gate_one w2.heap.size vo O rfl HOZ.out ⟨wr.heap.size + 1, 0, none⟩ 1 [((y1, y2, y3) : Int × Int × Int)] rfl HSZ.out h63y hbyy HBZ.out.size ?_; intro v6 w6 hown hg hnil hat; have HO6 := Lib.hid hown; have HB6 := Lib.hid (Below.grown HBZ.out hg HBZ.out.size (fun k e => (HOZ.out.lt k e).1)); clear hown hg hnil hat)
               go_roundw
               case rel => exact ⟨n + 1, _, rfl, by omega, by go_num, by rw [HN.out], by rw [HN.out]; exact HO6.out, HB6.out⟩
               case measure => simp [Go.RowKit.intOf]; omega
           · skip
             simp only at t1 t2 t3 t4
             have u1 : (y1 == e) = true := by simpa using t2
             have u2 : (y1 != e) = false := by simpa using t2
             have u3 : (y2 != p) = false := by simpa using t4
             cases d
             · skip
               have HN : Hid (sgFold (e, p, s) (R.take (n + 1)) = (O, false)) := Lib.hid (by rw [HSU.out]; simp [sgStep, ha, ho])
               clear ha ho t2 t4
               go_wp2_with fail
               go_roundw
               case rel => exact ⟨n + 1, _, rfl, by omega, by go_num, by rw [HN.out], by rw [HN.out]; exact HO.out.alloc _, HBY.out⟩
               case measure => simp [Go.RowKit.intOf]; omega
             · skip
               have HN : Hid (sgFold (e, p, s) (R.take (n + 1)) = (O, true)) := Lib.hid (by rw [HSU.out]; simp [sgStep, ha, ho])
               clear ha ho t2 t4
               go_wp2_with fail
               go_roundw
               case rel => exact ⟨n + 1, _, rfl, by omega, by go_num, by rw [HN.out], by rw [HN.out]; exact HO.out.alloc _, HBY.out⟩
               case measure => simp [Go.RowKit.intOf]; omega
           · skip
             simp only at t1 t2 t3 t4
             have u1 : (y1 == e) = true := by simpa using t2
             have u2 : (y1 != e) = false := by simpa using t2
             have u3 : (y2 != p) = true := by simpa using t4
             cases d
             · skip
               have HN : Hid (sgFold (e, p, s) (R.take (n + 1)) = (O ++ [((y1, y2, y3) : Int × Int × Int)], false)) := Lib.hid (by rw [HSU.out]; simp [sgStep, ha, ho])
               clear ha ho t2 t4
               go_wp2_with (at_builtin; refine wp_app (T := tGate) rfl _ _ 28 rfl i0 (.agg #[.int .i64 0, .int .i64 0, .int .i64 0]) 24 Tryz.underlying28 hi0 hz0 hz1 hz2 rfl (by decide) gate_one w2.heap.size vo O rfl HOZ.out ⟨wr.heap.size + 1, 0, none⟩ 1 [((y1, y2, y3) : Int × Int × Int)] rfl HSZ.out h63y hbyy HBZ.out.size ?_; intro v6 w6 hown hg hnil hat; have HO6 := Lib.hid hown; have HB6 := Lib.hid (Below.grown HBZ.out hg HBZ.out.size (fun k e => (HOZ.out.lt k e).1)); clear hown hg hnil hat)
               go_roundw
               case rel => exact ⟨n + 1, _, rfl, by omega, by go_num, by rw [HN.out], by rw [HN.out]; exact HO6.out, HB6.out⟩
               case measure => simp [Go.RowKit.intOf]; omega
             · skip
               have HN : Hid (sgFold (e, p, s) (R.take (n + 1)) = (O ++ [((y1, y2, y3) : Int × Int × Int)], true)) := Lib.hid (by rw [HSU.out]; simp [sgStep, ha, ho])
               clear ha ho t2 t4
               go_wp2_with (at_builtin; refine wp_app (T := tGate) rfl _ _ 28 rfl i0 (.agg #[.int .i64 0, .int .i64 0, .int .i64 0]) 24 Tryz.underlying28 hi0 hz0 hz1 hz2 rfl (by decide) gate_one w2.heap.size vo O rfl HOZ.out ⟨wr.heap.size + 1, 0, none⟩ 1 [((y1, y2, y3) : Int × Int × Int)] rfl HSZ.out h63y hbyy HBZ.out.size ?_; intro v6 w6 hown hg hnil hat; have HO6 := Lib.hid hown; have HB6 := Lib.hid (Below.grown HBZ.out hg HBZ.out.size (fun k e => (HOZ.out.lt k e).1)); clear hown hg hnil hat)
               go_roundw
               case rel => exact ⟨n + 1, _, rfl, by omega, by go_num, by rw [HN.out], by rw [HN.out]; exact HO6.out, HB6.out⟩
               case measure => simp [Go.RowKit.intOf]; omega
           · skip
             simp only at t1 t2
             have u1 : (y1 == e) = false := by simpa using t2
             have u2 : (y1 != e) = true := by simpa using t2
             cases d
             · skip
               have HN : Hid (sgFold (e, p, s) (R.take (n + 1)) = (O ++ [((y1, y2, y3) : Int × Int × Int)], false)) := Lib.hid (by rw [HSU.out]; simp [sgStep, ha, ho])
               clear ha ho t2
               go_wp2_with (at_builtin; refine wp_app (T := tGate) rfl _ _ 28 rfl i0 (.agg #[.int .i64 0, .int .i64 0, .int .i64 0]) 24 Tryz.underlying28 hi0 hz0 hz1 hz2 rfl (by decide) gate_one w2.heap.size vo O rfl HOZ.out ⟨wr.heap.size + 1, 0, none⟩ 1 [((y1, y2, y3) : Int × Int × Int)] rfl HSZ.out h63y hbyy HBZ.out.size ?_; intro v6 w6 hown hg hnil hat; have HO6 := Lib.hid hown; have HB6 := Lib.hid (Below.grown HBZ.out hg HBZ.out.size (fun k e => (HOZ.out.lt k e).1)); clear hown hg hnil hat)
               go_roundw
               case rel => exact ⟨n + 1, _, rfl, by omega, by go_num, by rw [HN.out], by rw [HN.out]; exact HO6.out, HB6.out⟩
               case measure => simp [Go.RowKit.intOf]; omega
             · skip
               have HN : Hid (sgFold (e, p, s) (R.take (n + 1)) = (O ++ [((y1, y2, y3) : Int × Int × Int)], true)) := Lib.hid (by rw [HSU.out]; simp [sgStep, ha, ho])
               clear ha ho t2
               go_wp2_with (at_builtin; refine wp_app (T := tGate) rfl _ _ 28 rfl i0 (.agg #[.int .i64 0, .int .i64 0, .int .i64 0]) 24 Tryz.underlying28 hi0 hz0 hz1 hz2 rfl (by decide) gate_one w2.heap.size vo O rfl HOZ.out ⟨wr.heap.size + 1, 0, none⟩ 1 [((y1, y2, y3) : Int × Int × Int)] rfl HSZ.out h63y hbyy HBZ.out.size ?_; intro v6 w6 hown hg hnil hat; have HO6 := Lib.hid hown; have HB6 := Lib.hid (Below.grown HBZ.out hg HBZ.out.size (fun k e => (HOZ.out.lt k e).1)); clear hown hg hnil hat)
               go_roundw
               case rel => exact ⟨n + 1, _, rfl, by omega, by go_num, by rw [HN.out], by rw [HN.out]; exact HO6.out, HB6.out⟩
               case measure => simp [Go.RowKit.intOf]; omega
         · have HA := Lib.hid (HALL.out (by omega))
           have hcx := blk_cells HXR.out
           cases d
           · have HB6 := Lib.hid (belows_then HB2.out HB2.out.size HB.out)
             have HOX := Lib.hid (HO.out.alloc (.cells #[.int .i64 e, .int .i64 p, .int .i64 s] 50))
             have HBX := Lib.hid (HB.out.alloc HB.out.size (.cells #[.int .i64 e, .int .i64 p, .int .i64 s] 50))
             have HSX : Hid (Sl tGate (wr.alloc (.cells #[.int .i64 e, .int .i64 p, .int .i64 s] 50)) (fun kk => some kk ≠ vo.ownBlock ∧ kk < (wr.alloc (.cells #[.int .i64 e, .int .i64 p, .int .i64 s] 50)).heap.size) (some ⟨wr.heap.size, 0, none⟩) [((e, p, s) : Int × Int × Int)]) := Lib.hid (sl_oneG (x := (e, p, s)) (blk_new wr _) ⟨fun e => by have := (HO.out.lt _ e.symm).2; omega, by simp⟩ (gate_mk _ HI.out.1 HI.out.2.1 HI.out.2.2))
             obtain ⟨h63, hby⟩ := sg_len hlen2 (e, p, s)
             clear HALL HSUC HXR
             go_wp2_with (at_builtin; refine wp_app (T := tGate) rfl _ _ 28 rfl i0 (.agg #[.int .i64 0, .int .i64 0, .int .i64 0]) 24 Tryz.underlying28 hi0 hz0 hz1 hz2 rfl (by decide) gate_one w2.heap.size vo O rfl HOX.out ⟨wr.heap.size, 0, none⟩ 1 [((e, p, s) : Int × Int × Int)] rfl HSX.out h63 hby HBX.out.size ?_; intro v6 w6 hown hg hnil hat; have HO7 := Lib.hid hown; have HB7 := Lib.hid (Below.grown HBX.out hg HBX.out.size (fun k e => (HOX.out.lt k e).1)); clear hown hg hnil hat)
             go_ret2
             refine ⟨⟨v6, by rw [HF.out]; rfl, .inl ⟨HF.out, ?_⟩⟩, belows_then HB2.out HB2.out.size HB7.out⟩
             rw [HA.out]
             exact HO7.out.mono HB2.out.size
           · clear HALL HSUC HXR
             go_wp2_with fail
             go_ret2
             refine ⟨⟨vo, by rw [HF.out]; rfl, .inl ⟨HF.out, ?_⟩⟩, belows_then HB2.out HB2.out.size HB.out⟩
             rw [HA.out]
             exact HO.out.mono HB2.out.size
end Go.Proofs.YtacemlbfifhllaaGreat
