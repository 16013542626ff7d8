/- trial.Pick: of balances those of kinds. -/
import Derived.Test.YtapmedcgfnlchaaGreatX25SheetRolls
import Derived.Test.YtapmedcgfnlchaaGreatX26SheetRolls
set_option linter.unusedVariables false
set_option linter.unusedSimpArgs false
namespace Go.Proofs.YtapmedcgfnlchaaGreat
open Go.RowKit Go.Maps Go.Deep

theorem filter_yes {α : Type} (p : α → Bool) {l : List α} {n : Nat} (hn : n < l.length) (h : p l[n] = true) : (l.take (n + 1)).filter p = (l.take n).filter p ++ [l[n]] := by
  rw [List.take_succ_eq_append_getElem hn, List.filter_append]
  simp [h]
theorem filter_no {α : Type} (p : α → Bool) {l : List α} {n : Nat} (hn : n < l.length) (h : p l[n] = false) : (l.take (n + 1)).filter p = (l.take n).filter p := by
  rw [List.take_succ_eq_append_getElem hn, List.filter_append]
  simp [h]

set_option maxHeartbeats 8000000 in
set_option maxRecDepth 100000 in
theorem pick_any {w : World} {g : Nat} {mb : Option Nat} {r : List Ac} (h : ChartAt w g mb r) (l : List (Int × Int)) (a : Option Addr) (cap : Nat) (ks : List Int) (ka : Option Addr) (kc : Nat) {F G : Nat → Prop} (hs : Sl tBal w F a l) (hl : l.length ≤ 1000) (hks : Sl tInt w G ka ks) (hkl : ks.length ≤ maxLen) :
    Calls Tryz.prog 62 #[.pointer (some ⟨g, 0, none⟩), .slice a l.length cap, .slice ka ks.length kc] w fun e w' => ∃ v, e = .returned v ∧ OwnL tBal w' w.heap.size v (l.filter (pickB r ks)) ∧ Below w.heap.size w w' := by
  have HH := Lib.hid h
  have HS := Lib.hid hs
  have HKS := Lib.hid hks
  clear h hs hks
  obtain ⟨i0, hi, hz0, hz1, hz2⟩ := info_parts infoBal
  go_enter Tryz.func62, Tryz.ntmps62
  go_wp2_with fail
  go_loopw [7, 14] (fun vo vi wr => ∃ (n : Nat) (vx : Value), vx = vo ∧ n ≤ l.length ∧ vi = .int .i64 n ∧ OwnL tBal wr w.heap.size vx ((l.take n).filter (pickB r ks)) ∧ Below w.heap.size w wr) (fun _ vi _ => l.length - (intOf vi).toNat)
  case atStart => exact ⟨0, _, rfl, Nat.zero_le _, rfl, OwnL.nil _ _, Below.refl _ _⟩
  case round =>
    obtain ⟨n, vo, rfl, hn, rfl, ho, hb⟩ := hrel
    have HO := Lib.hid ho
    have HB := Lib.hid hb
    clear ho hb
    by_cases hlt : n < l.length
    · obtain ⟨ad, rfl, _, hadl, hc0, hc1, g0, g1⟩ := bal_at (Sl.keep (fun k hk _ => HB.out.block k hk) HS.out) n hlt
      have HY := Lib.hid (fun h => filter_yes (pickB r ks) hlt h)
      have HN := Lib.hid (fun h => filter_no (pickB r ks) hlt h)
      have hnum : ((l.take n).filter (pickB r ks)).length ≤ 1000 := by
        have := List.length_filter_le (pickB r ks) (l.take n)
        rw [List.length_take] at this
        omega
      generalize l[n] = x at *
      obtain ⟨k, v⟩ := x
      simp only at hc0 hc1 g0 g1
      have G0 := Lib.hid g0
      have G1 := Lib.hid g1
      have HBA : Hid (Below wr.heap.size wr (wr.alloc (.cells #[.int .i64 k, .int .i64 v] 68))) := Lib.hid ((Below.refl _ _).alloc (Nat.le_refl _) _)
      have HZA := Lib.hid (blk_new wr (.cells #[.int .i64 k, .int .i64 v] 68))
      have HC := Lib.hid (chget_any ((HH.out.below HB.out).below HBA.out) k g0)
      have hpk : pickB r ks (k, v) = match findA r k with | some a => ks.contains a.kind | none => false := rfl
      clear g0 g1
      cases hfa : findA r k with
      | none =>
        have hd : acD r k = ac0 := by unfold acD; rw [hfa]; rfl
        rw [hfa] at hpk
        have hcg := HC.out
        rw [hfa, hd] at hcg
        have HCG := Lib.hid hcg
        have HPK : Hid (pickB r ks (k, v) = false) := Lib.hid hpk
        clear hcg HC hpk hd hfa
        go_wp2_with fail
        refine HCG.out.mono ?_
        rintro en w2 ⟨rfl, hb⟩
        have HB2 := Lib.hid (belows_then (belows_then HB.out HB.out.size HBA.out) (Nat.le_trans HB.out.size HBA.out.size) hb)
        have HO2 := Lib.hid ((HO.out.below HBA.out).below hb)
        clear hb
        go_wp2_with fail
        go_roundw
        case rel => exact ⟨n + 1, _, rfl, by omega, by go_num, by rw [HN.out HPK.out]; exact HO2.out.alloc _, HB2.out.alloc HB2.out.size _⟩
        case measure => simp [intOf]; omega
      | some ac =>
        have hd : acD r k = ac := by unfold acD; rw [hfa]; rfl
        rw [hfa] at hpk
        have hcg := HC.out
        rw [hfa, hd] at hcg
        have HCG := Lib.hid hcg
        have HPK : Hid (pickB r ks (k, v) = ks.contains ac.kind) := Lib.hid hpk
        clear hcg HC hpk hd hfa
        obtain ⟨c1, c2, c3⟩ := ac
        go_wp2_with fail
        refine HCG.out.mono ?_
        rintro en w2 ⟨rfl, hb⟩
        have HB2 := Lib.hid (belows_then (belows_then HB.out HB.out.size HBA.out) (Nat.le_trans HB.out.size HBA.out.size) hb)
        have HO2 := Lib.hid ((HO.out.below HBA.out).below hb)
        have HZ2 := Lib.hid (blk_below HZA.out hb)
        have HK2 := Lib.hid (Sl.keep (fun k hk _ => (HB2.out.alloc HB2.out.size (.cells #[.int .i64 c1, .int .i64 c2, .bool c3] 53)).block k hk) HKS.out)
        have hzc := blk_cells HZ2.out
        have hzl := blk_lt HZ2.out
        simp only [Option.isSome_some]
        clear hb hc0 hc1 hadl
        cases hc : ks.contains c2
        · have HP2 := Lib.hid (HPK.out.trans hc)
          have HCC := Lib.hid (contains_any ks ka kc c2 _ HK2.out hkl hc)
          clear hc
          go_wp2_with fail
          refine HCC.out.mono ?_
          rintro en w3 ⟨rfl, rfl⟩
          go_wp2_with fail
          go_roundw
          case rel => exact ⟨n + 1, _, rfl, by omega, by go_num, by rw [HN.out HP2.out]; exact HO2.out.alloc _, HB2.out.alloc HB2.out.size _⟩
          case measure => simp [intOf]; omega
        · have HP2 := Lib.hid (HPK.out.trans hc)
          have HCC := Lib.hid (contains_any ks ka kc c2 _ HK2.out hkl hc)
          clear hc
          have HOA := Lib.hid ((HO2.out.alloc (.cells #[.int .i64 c1, .int .i64 c2, .bool c3] 53)).alloc (.cells #[.int .i64 k, .int .i64 v] 68))
          have HBB := Lib.hid ((HB2.out.alloc HB2.out.size (.cells #[.int .i64 c1, .int .i64 c2, .bool c3] 53)).alloc (by have := HB2.out.size; simp; omega) (.cells #[.int .i64 k, .int .i64 v] 68))
          have HSL : Hid (Sl tBal ((w2.alloc (.cells #[.int .i64 c1, .int .i64 c2, .bool c3] 53)).alloc (.cells #[.int .i64 k, .int .i64 v] 68)) (fun kk => some kk ≠ vo.ownBlock ∧ kk < ((w2.alloc (.cells #[.int .i64 c1, .int .i64 c2, .bool c3] 53)).alloc (.cells #[.int .i64 k, .int .i64 v] 68)).heap.size) (some ⟨w2.heap.size + 1, 0, none⟩) [(k, v)]) :=
            Lib.hid (sl_one2 tBal (x := (k, v)) rfl (by have := blk_new (w2.alloc (.cells #[.int .i64 c1, .int .i64 c2, .bool c3] 53)) (.cells #[.int .i64 k, .int .i64 v] 68); simpa using this) ⟨fun e => by have := (HO2.out.lt _ e.symm).2; omega, by simp⟩ (bal_mk (k, v) G0.out G1.out))
          have h63 : ((l.take n).filter (pickB r ks)).length + [((k, v) : Int × Int)].length ≤ maxLen := by simp only [List.length_cons, List.length_nil]; unfold maxLen; omega
          have hby : (((l.take n).filter (pickB r ks)).length + [((k, v) : Int × Int)].length) * 16 ≤ 140737488355328 := by simp only [List.length_cons, List.length_nil]; omega
          go_wp2_with fail
          refine HCC.out.mono ?_
          rintro en w3 ⟨rfl, rfl⟩
          go_wp2_with (at_builtin; refine wp_app (T := tBal) rfl _ _ 36 rfl i0 (.agg #[.int .i64 0, .int .i64 0]) 16 Tryz.underlying36 hi hz0 hz1 hz2 rfl (by decide) bal_one w.heap.size vo ((l.take n).filter (pickB r ks)) rfl HOA.out ⟨w2.heap.size + 1, 0, none⟩ 1 [(k, v)] rfl HSL.out h63 hby HBB.out.size ?_; intro v3 w3 hown hg hnil hat; have HO3 := Lib.hid hown; have HB3 := Lib.hid (Below.grown HBB.out hg HBB.out.size (fun k e => (HOA.out.lt k e).1)); clear hown hg hnil hat)
          go_roundw
          case rel => exact ⟨n + 1, _, rfl, by omega, by go_num, by rw [HY.out HP2.out]; exact HO3.out, HB3.out⟩
          case measure => simp [intOf]; omega
    · have HL : Hid (l.take n = l) := Lib.hid (take_all hn hlt)
      have hown := HO.out
      rw [HL.out] at hown
      have HW := Lib.hid hown
      clear hown
      go_wp2_with fail
      go_ret
      exact ⟨_, rfl, HW.out, HB.out⟩

set_option maxHeartbeats 4000000 in
set_option maxRecDepth 100000 in
theorem pick_nil (w : World) (l : List (Int × Int)) (a : Option Addr) (cap : Nat) (ks : List Int) (ka : Option Addr) (kc : Nat) {F : Nat → Prop} (hs : Sl tBal w F a l) (hl : l.length ≤ 1000) :
    Calls Tryz.prog 62 #[.pointer none, .slice a l.length cap, .slice ka ks.length kc] w fun e w' => e = .returned (.slice none 0 0) ∧ Below w.heap.size w w' := by
  have HS := Lib.hid hs
  clear hs
  go_enter Tryz.func62, Tryz.ntmps62
  go_wp2_with fail
  go_loopw [7, 14] (fun vo vi wr => ∃ (n : Nat), vo = .slice none 0 0 ∧ n ≤ l.length ∧ vi = .int .i64 n ∧ Below w.heap.size w wr) (fun _ vi _ => l.length - (intOf vi).toNat)
  case atStart => exact ⟨0, rfl, Nat.zero_le _, rfl, Below.refl _ _⟩
  case round =>
    obtain ⟨n, rfl, hn, rfl, hb⟩ := hrel
    have HB := Lib.hid hb
    clear hb
    by_cases hlt : n < l.length
    · obtain ⟨ad, rfl, _, hadl, hc0, hc1, g0, g1⟩ := bal_at (Sl.keep (fun k hk _ => HB.out.block k hk) HS.out) n hlt
      generalize l[n] = x at *
      obtain ⟨k, v⟩ := x
      simp only at hc0 hc1 g0 g1
      have HBA : Hid (Below w.heap.size w (wr.alloc (.cells #[.int .i64 k, .int .i64 v] 68))) := Lib.hid (HB.out.alloc HB.out.size _)
      clear g0 g1
      go_wp2_with fail
      refine (chget_nil _ k).mono ?_
      rintro en w2 ⟨rfl, hb⟩
      have HB2 := Lib.hid (belows_then HBA.out HBA.out.size hb)
      clear hb
      go_wp2_with fail
      go_roundw
      case rel => exact ⟨n + 1, rfl, by omega, by go_num, HB2.out.alloc HB2.out.size _⟩
      case measure => simp [intOf]; omega
    · go_wp2_with fail
      go_ret
      exact ⟨rfl, HB.out⟩
end Go.Proofs.YtapmedcgfnlchaaGreat
