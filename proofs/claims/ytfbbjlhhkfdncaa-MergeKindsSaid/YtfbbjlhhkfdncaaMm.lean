
/- MergeKinds: of one journal that both sides changed: which conflict it is, by what each of them made of it. -/
import Derived.Test.YtfbbjlhhkfdncaaMl
set_option linter.unusedVariables false
set_option linter.unusedSimpArgs false
namespace Go.Proofs.Ytfbbjlhhkfdncaa
open Go.RowKit Go.Maps

theorem mod5 (n : Int) : ∃ h, (wrap64 (n.tmod 5 + 5)).tmod 5 = h ∧ (h = 0 ∨ h = 1 ∨ h = 2 ∨ h = 3 ∨ h = 4) := by
  refine ⟨_, rfl, ?_⟩
  have h1 := Int.tmod_lt_of_pos n (show (0 : Int) < 5 by decide)
  have h2 : -5 < n.tmod 5 := by
    have := Int.lt_tmod_of_pos n (show (0 : Int) < 5 by decide)
    omega
  generalize n.tmod 5 = x at *
  have h3 : wrap64 (x + 5) = x + 5 := by unfold wrap64; omega
  rw [h3, Int.tmod_eq_emod_of_nonneg (by omega)]
  omega
theorem val5 : ValJ [q5] := val_one (by decide +kernel)
theorem valCh (h : Int) : ValJ (chL h) := by
  unfold chL
  split
  · exact ValJ.nil
  · refine val_one ?_
    unfold edJ
    split
    · decide +kernel
    · split
      · decide +kernel
      · split <;> decide +kernel
/-- what Table tells of the two changes -/
def KF (h1 h2 : Int) (T1 : List Jn) (T2 : List (Int × Int)) : Prop :=
  if h1 = 0 ∨ h2 = 0 ∨ h1 = h2 then T2 = [] ∧ T1.length ≤ 1 else T1 = [] ∧ T2 = [(if (h1 = 2 ∨ h1 = 3) ↔ (h2 = 2 ∨ h2 = 3) then 1 else 2, 5)]
theorem ids5 (h1 h2 : Int) (a : h1 = 0 ∨ h1 = 1 ∨ h1 = 2 ∨ h1 = 3 ∨ h1 = 4) (b : h2 = 0 ∨ h2 = 1 ∨ h2 = 2 ∨ h2 = 3 ∨ h2 = 4) : idsJ [q5] (chL h1) (chL h2) = [5] := by
  have e : (cntS (([q5] ++ chL h1) ++ chL h2)).map (·.1) = [5] := by
    rcases a with rfl | rfl | rfl | rfl | rfl <;> rcases b with rfl | rfl | rfl | rfl | rfl <;> decide +kernel
  unfold idsJ
  rw [e, srt_self (by simp)]
theorem tabK (h1 h2 : Int) (a : h1 = 0 ∨ h1 = 1 ∨ h1 = 2 ∨ h1 = 3 ∨ h1 = 4) (b : h2 = 0 ∨ h2 = 1 ∨ h2 = 2 ∨ h2 = 3 ∨ h2 = 4) : KF h1 h2 (tabJ [q5] (chL h1) (chL h2)) (tabC [q5] (chL h1) (chL h2)) := by
  have e1 : tabJ [q5] (chL h1) (chL h2) = (cameL [q5] (chL h1) (chL h2) [5]).map (·.2) := by unfold tabJ; rw [ids5 h1 h2 a b]
  have e2 : tabC [q5] (chL h1) (chL h2) = (badL [q5] (chL h1) (chL h2) [5]).map (fun x => (x.2, x.1)) := by unfold tabC; rw [ids5 h1 h2 a b]
  rw [e1, e2]
  unfold KF
  rcases a with rfl | rfl | rfl | rfl | rfl <;> rcases b with rfl | rfl | rfl | rfl | rfl <;> first
    | (rw [if_pos (by decide)]; exact ⟨by kernel_rfl, by decide +kernel⟩)
    | (rw [if_neg (by decide)]; exact ⟨by kernel_rfl, by kernel_rfl⟩)

set_option maxHeartbeats 16000000 in
set_option maxRecDepth 100000 in
theorem kinds_any (one two : Int) (w : World) (ho : I64 one) (ht : I64 two) : Calls Try.prog 5 #[.int .i64 one, .int .i64 two] w fun e w' => e = .returned (.bool true) ∧ Below w.heap.size w w' := by
  go_enter Try.func5, Try.ntmps5
  go_wp2_with fail
  refine (alive16 w).mono ?_
  rintro en w1 ⟨rfl, hb⟩
  have HB1 := Lib.hid hb
  have hs1 := hb.size
  have HBW := Lib.hid (((hb.alloc hs1 (.cells #[.int .i64 1, .int .i64 5, .int .i64 0, .int .i64 2, .int .i64 (-5), .int .i64 0] 43)).alloc (by simp; omega) (.cells #[.int .i64 5, .int .i64 1, .int .i64 3, .string ⟨#[]⟩, .slice (some ⟨w1.heap.size, 0, none⟩) 2 2, .bool false] 31)).alloc (by simp; omega) (.cells #[.int .i64 5, .int .i64 1, .int .i64 3, .string ⟨#[]⟩, .slice (some ⟨w1.heap.size, 0, none⟩) 2 2, .bool false] 31))
  have HLW : Hid (((((w1.alloc (.cells #[.int .i64 1, .int .i64 5, .int .i64 0, .int .i64 2, .int .i64 (-5), .int .i64 0] 43)).alloc (.cells #[.int .i64 5, .int .i64 1, .int .i64 3, .string ⟨#[]⟩, .slice (some ⟨w1.heap.size, 0, none⟩) 2 2, .bool false] 31)).alloc (.cells #[.int .i64 5, .int .i64 1, .int .i64 3, .string ⟨#[]⟩, .slice (some ⟨w1.heap.size, 0, none⟩) 2 2, .bool false] 31))).heap[w1.heap.size]? = some (.cells #[.int .i64 1, .int .i64 5, .int .i64 0, .int .i64 2, .int .i64 (-5), .int .i64 0] 43 (0, 0))) := Lib.hid (blk_alloc (blk_alloc (blk_new w1 (.cells #[.int .i64 1, .int .i64 5, .int .i64 0, .int .i64 2, .int .i64 (-5), .int .i64 0] 43)) _) _)
  have HJW : Hid (((((w1.alloc (.cells #[.int .i64 1, .int .i64 5, .int .i64 0, .int .i64 2, .int .i64 (-5), .int .i64 0] 43)).alloc (.cells #[.int .i64 5, .int .i64 1, .int .i64 3, .string ⟨#[]⟩, .slice (some ⟨w1.heap.size, 0, none⟩) 2 2, .bool false] 31)).alloc (.cells #[.int .i64 5, .int .i64 1, .int .i64 3, .string ⟨#[]⟩, .slice (some ⟨w1.heap.size, 0, none⟩) 2 2, .bool false] 31))).heap[w1.heap.size + 1]? = some (.cells #[.int .i64 q5.id, .int .i64 q5.en, .int .i64 q5.pe, .string q5.ref, .slice (some ⟨w1.heap.size, 0, none⟩) q5.lines.length 2, .bool q5.void] 31 (0, 0))) := Lib.hid (blk_alloc (show ((w1.alloc (.cells #[.int .i64 1, .int .i64 5, .int .i64 0, .int .i64 2, .int .i64 (-5), .int .i64 0] 43)).alloc (.cells #[.int .i64 5, .int .i64 1, .int .i64 3, .string ⟨#[]⟩, .slice (some ⟨w1.heap.size, 0, none⟩) 2 2, .bool false] 31)).heap[w1.heap.size + 1]? = some (.cells #[.int .i64 5, .int .i64 1, .int .i64 3, .string ⟨#[]⟩, .slice (some ⟨w1.heap.size, 0, none⟩) 2 2, .bool false] 31 (0, 0)) by have := blk_new (w1.alloc (.cells #[.int .i64 1, .int .i64 5, .int .i64 0, .int .i64 2, .int .i64 (-5), .int .i64 0] 43)) (.cells #[.int .i64 5, .int .i64 1, .int .i64 3, .string ⟨#[]⟩, .slice (some ⟨w1.heap.size, 0, none⟩) 2 2, .bool false] 31); simpa using this) _)
  have HJ2 : Hid (((((w1.alloc (.cells #[.int .i64 1, .int .i64 5, .int .i64 0, .int .i64 2, .int .i64 (-5), .int .i64 0] 43)).alloc (.cells #[.int .i64 5, .int .i64 1, .int .i64 3, .string ⟨#[]⟩, .slice (some ⟨w1.heap.size, 0, none⟩) 2 2, .bool false] 31)).alloc (.cells #[.int .i64 5, .int .i64 1, .int .i64 3, .string ⟨#[]⟩, .slice (some ⟨w1.heap.size, 0, none⟩) 2 2, .bool false] 31))).heap[w1.heap.size + 1 + 1]? = some (.cells #[.int .i64 q5.id, .int .i64 q5.en, .int .i64 q5.pe, .string q5.ref, .slice (some ⟨w1.heap.size, 0, none⟩) q5.lines.length 2, .bool q5.void] 31 (0, 0))) := Lib.hid (show ((((w1.alloc (.cells #[.int .i64 1, .int .i64 5, .int .i64 0, .int .i64 2, .int .i64 (-5), .int .i64 0] 43)).alloc (.cells #[.int .i64 5, .int .i64 1, .int .i64 3, .string ⟨#[]⟩, .slice (some ⟨w1.heap.size, 0, none⟩) 2 2, .bool false] 31)).alloc (.cells #[.int .i64 5, .int .i64 1, .int .i64 3, .string ⟨#[]⟩, .slice (some ⟨w1.heap.size, 0, none⟩) 2 2, .bool false] 31))).heap[w1.heap.size + 1 + 1]? = some (.cells #[.int .i64 5, .int .i64 1, .int .i64 3, .string ⟨#[]⟩, .slice (some ⟨w1.heap.size, 0, none⟩) 2 2, .bool false] 31 (0, 0)) by have := blk_new ((w1.alloc (.cells #[.int .i64 1, .int .i64 5, .int .i64 0, .int .i64 2, .int .i64 (-5), .int .i64 0] 43)).alloc (.cells #[.int .i64 5, .int .i64 1, .int .i64 3, .string ⟨#[]⟩, .slice (some ⟨w1.heap.size, 0, none⟩) 2 2, .bool false] 31)) (.cells #[.int .i64 5, .int .i64 1, .int .i64 3, .string ⟨#[]⟩, .slice (some ⟨w1.heap.size, 0, none⟩) 2 2, .bool false] 31); simpa using this)
  have HRW : Hid (tJn.R (((w1.alloc (.cells #[.int .i64 1, .int .i64 5, .int .i64 0, .int .i64 2, .int .i64 (-5), .int .i64 0] 43)).alloc (.cells #[.int .i64 5, .int .i64 1, .int .i64 3, .string ⟨#[]⟩, .slice (some ⟨w1.heap.size, 0, none⟩) 2 2, .bool false] 31)).alloc (.cells #[.int .i64 5, .int .i64 1, .int .i64 3, .string ⟨#[]⟩, .slice (some ⟨w1.heap.size, 0, none⟩) 2 2, .bool false] 31)) (fun _ => True) (jcs q5 (some ⟨w1.heap.size, 0, none⟩) 2) q5) := Lib.hid (jn_mk q5 (by decide) (by decide) (by decide) (by decide) (sl_lns2 ⟨1, 5, 0⟩ ⟨2, -5, 0⟩ HLW.out trivial ⟨by decide, by decide, by decide⟩ ⟨by decide, by decide, by decide⟩) (by decide) (by decide) (by rw [line_bytes]; decide))
  have HSL := Lib.hid (sl_oneJ (F := fun _ => True) HJ2.out trivial HRW.out)
  clear hb
  go_wp2_with fail
  refine (of_val val5 (some ⟨w1.heap.size + 1 + 1, 0, none⟩) 1 _ HSL.out).mono ?_
  rintro en w3 ⟨g0, rfl, hk, hb⟩
  have HK3 := Lib.hid hk
  have HB3 := Lib.hid (belows_then HBW.out HBW.out.size hb)
  have HJ3 := Lib.hid (blk_below HJW.out hb)
  have HR3 := Lib.hid (tJn.keep (fun k hk _ => hb.block k hk) HRW.out)
  have hz3 := blk_cells HJ3.out
  have hzl3 := blk_lt HJ3.out
  have hs3 := HB3.out.size
  obtain ⟨h1, hv1, hh1⟩ := mod5 one
  obtain ⟨h2, hv2, hh2⟩ := mod5 two
  have HH1 := Lib.hid hh1
  have HH2 := Lib.hid hh2
  have hed : ((w3.alloc (.cells #[.int .i64 q5.id, .int .i64 q5.en, .int .i64 q5.pe, .string q5.ref, .slice (some ⟨w1.heap.size, 0, none⟩) q5.lines.length 2, .bool q5.void] 31)).alloc (.cells #[.int .i64 5, .int .i64 h1, .int .i64 7] 46)).heap[w3.heap.size + 1]? = some (.cells #[.int .i64 5, .int .i64 h1, .int .i64 7] 46 (0, 0)) := by have := blk_new (w3.alloc (.cells #[.int .i64 q5.id, .int .i64 q5.en, .int .i64 q5.pe, .string q5.ref, .slice (some ⟨w1.heap.size, 0, none⟩) q5.lines.length 2, .bool q5.void] 31)) (.cells #[.int .i64 5, .int .i64 h1, .int .i64 7] 46); simpa using this
  have HC1 := Lib.hid (changed1 h1 hh1 w3.heap.size (w3.heap.size + 1) 2 (some ⟨w1.heap.size, 0, none⟩) _ (blk_alloc (blk_new w3 (.cells #[.int .i64 q5.id, .int .i64 q5.en, .int .i64 q5.pe, .string q5.ref, .slice (some ⟨w1.heap.size, 0, none⟩) q5.lines.length 2, .bool q5.void] 31)) (.cells #[.int .i64 5, .int .i64 h1, .int .i64 7] 46)) (tJn.keep (fun k hk _ => (((Below.refl w3.heap.size w3).alloc (Nat.le_refl _) (.cells #[.int .i64 q5.id, .int .i64 q5.en, .int .i64 q5.pe, .string q5.ref, .slice (some ⟨w1.heap.size, 0, none⟩) q5.lines.length 2, .bool q5.void] 31)).alloc (by simp) (.cells #[.int .i64 5, .int .i64 h1, .int .i64 7] 46)).block k hk) HR3.out) hed)
  have HBC := Lib.hid ((HB3.out.alloc hs3 (.cells #[.int .i64 q5.id, .int .i64 q5.en, .int .i64 q5.pe, .string q5.ref, .slice (some ⟨w1.heap.size, 0, none⟩) q5.lines.length 2, .bool q5.void] 31)).alloc (by simp; omega) (.cells #[.int .i64 5, .int .i64 h1, .int .i64 7] 46))
  have HKC := Lib.hid (HK3.out.below (((Below.refl w3.heap.size w3).alloc (Nat.le_refl _) (.cells #[.int .i64 q5.id, .int .i64 q5.en, .int .i64 q5.pe, .string q5.ref, .slice (some ⟨w1.heap.size, 0, none⟩) q5.lines.length 2, .bool q5.void] 31)).alloc (by simp) (.cells #[.int .i64 5, .int .i64 h1, .int .i64 7] 46)))
  have HJC := Lib.hid (blk_alloc (blk_alloc HJ3.out (.cells #[.int .i64 q5.id, .int .i64 q5.en, .int .i64 q5.pe, .string q5.ref, .slice (some ⟨w1.heap.size, 0, none⟩) q5.lines.length 2, .bool q5.void] 31)) (.cells #[.int .i64 5, .int .i64 h1, .int .i64 7] 46))
  have HRC := Lib.hid (tJn.keep (fun k hk _ => (((Below.refl w3.heap.size w3).alloc (Nat.le_refl _) (.cells #[.int .i64 q5.id, .int .i64 q5.en, .int .i64 q5.pe, .string q5.ref, .slice (some ⟨w1.heap.size, 0, none⟩) q5.lines.length 2, .bool q5.void] 31)).alloc (by simp) (.cells #[.int .i64 5, .int .i64 h1, .int .i64 7] 46)).block k hk) HR3.out)
  clear hk hb HBW HLW HJW HJ2 HRW HSL hed hh1 hh2
  go_wp2_with fail
  refine HC1.out.mono ?_
  rintro en w4 ⟨v4, rfl, ho4, hb⟩
  have HB4 := Lib.hid (belows_then HBC.out HBC.out.size hb)
  have HK4 := Lib.hid (HKC.out.below hb)
  have HJ4 := Lib.hid (blk_below HJC.out hb)
  have HR4 := Lib.hid (tJn.keep (fun k hk _ => hb.block k hk) HRC.out)
  obtain ⟨a4, c4, rfl, _, _, hsl4⟩ := ho4.slice
  have HSL4 := Lib.hid hsl4
  clear ho4 hb hsl4 HBC HKC HJC HRC HC1 hz3 hzl3
  go_wp2_with fail
  refine (of_val (valCh h1) a4 c4 _ HSL4.out).mono ?_
  rintro en w5 ⟨g1, rfl, hk5, hb⟩
  have HB5 := Lib.hid (belows_then HB4.out HB4.out.size hb)
  have HK5 := Lib.hid (HK4.out.below hb)
  have HG5 := Lib.hid hk5
  have HJ5 := Lib.hid (blk_below HJ4.out hb)
  have HR5 := Lib.hid (tJn.keep (fun k hk _ => hb.block k hk) HR4.out)
  have hz5 := blk_cells HJ5.out
  have hzl5 := blk_lt HJ5.out
  have hs5 := HB5.out.size
  have hed : ((w5.alloc (.cells #[.int .i64 q5.id, .int .i64 q5.en, .int .i64 q5.pe, .string q5.ref, .slice (some ⟨w1.heap.size, 0, none⟩) q5.lines.length 2, .bool q5.void] 31)).alloc (.cells #[.int .i64 5, .int .i64 h2, .int .i64 7] 46)).heap[w5.heap.size + 1]? = some (.cells #[.int .i64 5, .int .i64 h2, .int .i64 7] 46 (0, 0)) := by have := blk_new (w5.alloc (.cells #[.int .i64 q5.id, .int .i64 q5.en, .int .i64 q5.pe, .string q5.ref, .slice (some ⟨w1.heap.size, 0, none⟩) q5.lines.length 2, .bool q5.void] 31)) (.cells #[.int .i64 5, .int .i64 h2, .int .i64 7] 46); simpa using this
  have hbl5 := ((Below.refl w5.heap.size w5).alloc (Nat.le_refl _) (.cells #[.int .i64 q5.id, .int .i64 q5.en, .int .i64 q5.pe, .string q5.ref, .slice (some ⟨w1.heap.size, 0, none⟩) q5.lines.length 2, .bool q5.void] 31)).alloc (by simp) (.cells #[.int .i64 5, .int .i64 h2, .int .i64 7] 46)
  have HC2 := Lib.hid (changed1 h2 HH2.out w5.heap.size (w5.heap.size + 1) 2 (some ⟨w1.heap.size, 0, none⟩) _ (blk_alloc (blk_new w5 (.cells #[.int .i64 q5.id, .int .i64 q5.en, .int .i64 q5.pe, .string q5.ref, .slice (some ⟨w1.heap.size, 0, none⟩) q5.lines.length 2, .bool q5.void] 31)) (.cells #[.int .i64 5, .int .i64 h2, .int .i64 7] 46)) (tJn.keep (fun k hk _ => hbl5.block k hk) HR5.out) hed)
  have HBD := Lib.hid ((HB5.out.alloc hs5 (.cells #[.int .i64 q5.id, .int .i64 q5.en, .int .i64 q5.pe, .string q5.ref, .slice (some ⟨w1.heap.size, 0, none⟩) q5.lines.length 2, .bool q5.void] 31)).alloc (by simp; omega) (.cells #[.int .i64 5, .int .i64 h2, .int .i64 7] 46))
  have HKD := Lib.hid (HK5.out.below hbl5)
  have HGD := Lib.hid (HG5.out.below hbl5)
  clear hk5 hb hed hbl5
  go_wp2_with fail
  refine HC2.out.mono ?_
  rintro en w6 ⟨v6, rfl, ho6, hb⟩
  have HB6 := Lib.hid (belows_then HBD.out HBD.out.size hb)
  have HK6 := Lib.hid (HKD.out.below hb)
  have HG6 := Lib.hid (HGD.out.below hb)
  obtain ⟨a6, c6, rfl, _, _, hsl6⟩ := ho6.slice
  have HSL6 := Lib.hid hsl6
  clear ho6 hb hsl6 HBD HKD HGD HC2 hz5 hzl5
  go_wp2_with fail
  refine (of_val (valCh h2) a6 c6 _ HSL6.out).mono ?_
  rintro en w7 ⟨g2, rfl, hk7, hb⟩
  have HB7 := Lib.hid (belows_then HB6.out HB6.out.size hb)
  have HK7 := Lib.hid (HK6.out.below hb)
  have HG7 := Lib.hid (HG6.out.below hb)
  have HT7 := Lib.hid hk7
  clear hk7 hb
  go_wp2_with fail
  refine (tableF_any HK7.out HG7.out HT7.out).mono ?_
  rintro en w8 ⟨v8, v9, rfl, ho8, ho9, hb⟩
  have HB8 := Lib.hid (belows_then HB7.out HB7.out.size hb)
  have hK := tabK h1 h2 HH1.out HH2.out
  generalize tabJ [q5] (chL h1) (chL h2) = T1 at *
  generalize tabC [q5] (chL h1) (chL h2) = T2 at *
  have HKF := Lib.hid hK
  obtain ⟨a8, c8, rfl, _, _, _⟩ := ho8.slice
  obtain ⟨a9, c9, rfl, _, _, hs9⟩ := ho9.slice
  have HS9 := Lib.hid hs9
  clear hb ho8 ho9 hs9 hK
  clear hv1 hv2 HB1 HK3 HB3 HJ3 HR3 HB4 HK4 HJ4 HR4 HSL4 HB5 HK5 HG5 HJ5 HR5 HB6 HK6 HG6 HSL6 HK7 HG7 HT7
  rcases HH1.out with rfl | rfl | rfl | rfl | rfl <;> rcases HH2.out with rfl | rfl | rfl | rfl | rfl
  all_goals
    have hkf := HKF.out
    unfold KF at hkf
    clear HKF HH1 HH2
    first
      | (rw [if_pos (by decide)] at hkf; obtain ⟨rfl, hle⟩ := hkf; have hli : (T1.length : Int) ≤ 1 := (by omega); go_wp2_with fail; go_ret; exact ⟨rfl, HB8.out⟩)
      | (rw [if_neg (by decide)] at hkf; obtain ⟨rfl, rfl⟩ := hkf; obtain ⟨bd, rfl, hbl, he0, he1⟩ := cf_at HS9.out 0 (by simp); have e1 : bd.add (0 * 2) = bd := (by unfold Addr.add; split <;> simp_all); rw [e1] at he0 he1; have hf0 : w8.cell? bd = some (.int .i64 1) := he0; have hf1 : w8.cell? ⟨bd.block, bd.off + 1, none⟩ = some (.int .i64 5) := he1; clear he0 he1 e1; go_wp2_with fail; go_ret; exact ⟨rfl, HB8.out⟩)
      | (rw [if_neg (by decide)] at hkf; obtain ⟨rfl, rfl⟩ := hkf; obtain ⟨bd, rfl, hbl, he0, he1⟩ := cf_at HS9.out 0 (by simp); have e1 : bd.add (0 * 2) = bd := (by unfold Addr.add; split <;> simp_all); rw [e1] at he0 he1; have hf0 : w8.cell? bd = some (.int .i64 2) := he0; have hf1 : w8.cell? ⟨bd.block, bd.off + 1, none⟩ = some (.int .i64 5) := he1; clear he0 he1 e1; go_wp2_with fail; go_ret; exact ⟨rfl, HB8.out⟩)
theorem mergeKinds_row (a0 a1 : Int) (w : World) (w0 : I64 a0) (w1 : I64 a1) : Calls Try.prog 5 #[.int .i64 a0, .int .i64 a1] w fun e w' => e = .returned (.bool true) ∧ Below w.heap.size w w' := kinds_any a0 a1 w w0 w1
end Go.Proofs.Ytfbbjlhhkfdncaa
