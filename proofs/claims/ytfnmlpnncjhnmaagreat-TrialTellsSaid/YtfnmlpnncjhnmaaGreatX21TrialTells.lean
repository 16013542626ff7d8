/- trial.Pick: of balances those of kinds. -/
import Derived.Test.YtfnmlpnncjhnmaaGreatX19TrialTells
import Derived.Test.YtfnmlpnncjhnmaaGreatX20TrialTells
import Derived.Test.YtfnmlpnncjhnmaaGreatX16TrialTells
import Derived.Test.YtfnmlpnncjhnmaaGreatX17TrialTells
set_option linter.unusedVariables false
set_option linter.unusedSimpArgs false
namespace Go.Proofs.YtfnmlpnncjhnmaaGreat
open Go.RowKit Go.Maps Go.Deep

theorem filter_yes {α : Type} (p : α → Bool) {l : List α} {n : Nat} (hn : n < l.length) (h : p l[n] = true) : (l.take (n + 1)).filter p = (l.take n).filter p ++ [l[n]] := by
  rw [List.take_succ_eq_append_getElem hn, List.filter_append]
  simp [h]
theorem filter_no {α : Type} (p : α → Bool) {l : List α} {n : Nat} (hn : n < l.length) (h : p l[n] = false) : (l.take (n + 1)).filter p = (l.take n).filter p := by
  rw [List.take_succ_eq_append_getElem hn, List.filter_append]
  simp [h]

set_option maxHeartbeats 8000000 in
set_option maxRecDepth 100000 in
theorem pick_any {w : World} {g : Nat} {mb : Option Nat} {r : List Ac} (h : ChartAt w g mb r) (l : List (Int × Int)) (a : Option Addr) (cap : Nat) (ks : List Int) (ka : Option Addr) (kc : Nat) {F G : Nat → Prop} (hs : Sl tBal w F a l) (hl : l.length ≤ 1000) (hks : Sl tInt w G ka ks) (hkl : ks.length ≤ maxLen) :
    Calls Tryz.prog 92 #[.pointer (some ⟨g, 0, none⟩), .slice a l.length cap, .slice ka ks.length kc] w fun e w' => ∃ v, e = .returned v ∧ OwnL tBal w' w.heap.size v (l.filter (pickB r ks)) ∧ Below w.heap.size w w' := by
  have HH := Lib.hid h
  have HS := Lib.hid hs
  have HKS := Lib.hid hks
  clear h hs hks
  obtain ⟨i0, hi, hz0, hz1, hz2⟩ := info_parts infoBal
  go_enter Tryz.func92, Tryz.ntmps92
  go_wp2_with fail
  go_loopw [7, 14] (fun vo vi wr => ∃ (n : Nat) (vx : Value), vx = vo ∧ n ≤ l.length ∧ vi = .int .i64 n ∧ OwnL tBal wr w.heap.size vx ((l.take n).filter (pickB r ks)) ∧ Below w.heap.size w wr) (fun _ vi _ => l.length - (intOf vi).toNat)
  case atStart => exact ⟨0, _, rfl, Nat.zero_le _, rfl, OwnL.nil _ _, Below.refl _ _⟩
  case round =>
    obtain ⟨n, vo, rfl, hn, rfl, ho, hb⟩ := hrel
    have HO := Lib.hid ho
    have HB := Lib.hid hb
    clear ho hb
    by_cases hlt : n < l.length
    · obtain ⟨ad, rfl, _, hadl, hc0, hc1, g0, g1⟩ := bal_at (Sl.keep (fun k hk _ => HB.out.block k hk) HS.out) n hlt
      have HY := Lib.hid (fun h => filter_yes (pickB r ks) hlt h)
      have HN := Lib.hid (fun h => filter_no (pickB r ks) hlt h)
      have hnum : ((l.take n).filter (pickB r ks)).length ≤ 1000 := by
        have := List.length_filter_le (pickB r ks) (l.take n)
        rw [List.length_take] at this
        omega
      generalize l[n] = x at *
      obtain ⟨k, v⟩ := x
      simp only at hc0 hc1 g0 g1
      have G0 := Lib.hid g0
      have G1 := Lib.hid g1
      have HBA : Hid (Below wr.heap.size wr (wr.alloc (.cells #[.int .i64 k, .int .i64 v] 94))) := Lib.hid ((Below.refl _ _).alloc (Nat.le_refl _) _)
      have HZA := Lib.hid (blk_new wr (.cells #[.int .i64 k, .int .i64 v] 94))
      have HC := Lib.hid (chget_any ((HH.out.below HB.out).below HBA.out) k g0)
      have hpk : pickB r ks (k, v) = match findA r k with | some a => ks.contains a.kind | none => false := rfl
      clear g0 g1
      cases hfa : findA r k with
      | none =>
        have hd : acD r k = ac0 := by unfold acD; rw [hfa]; rfl
        rw [hfa] at hpk
        have hcg := HC.out
        rw [hfa, hd] at hcg
        have HCG := Lib.hid hcg
        have HPK : Hid (pickB r ks (k, v) = false) := Lib.hid hpk
        clear hcg HC hpk hd hfa
        go_wp2_with fail
        refine HCG.out.mono ?_
        rintro en w2 ⟨rfl, hb⟩
        have HB2 := Lib.hid (belows_then (belows_then HB.out HB.out.size HBA.out) (Nat.le_trans HB.out.size HBA.out.size) hb)
        have HO2 := Lib.hid ((HO.out.below HBA.out).below hb)
        clear hb
        go_wp2_with fail
        go_roundw
        case rel => exact ⟨n + 1, _, rfl, by omega, by go_num, by rw [HN.out HPK.out]; exact HO2.out.alloc _, HB2.out.alloc HB2.out.size _⟩
        case measure => simp [intOf]; omega
      | some ac =>
        have hd : acD r k = ac := by unfold acD; rw [hfa]; rfl
        rw [hfa] at hpk
        have hcg := HC.out
        rw [hfa, hd] at hcg
        have HCG := Lib.hid hcg
        have HPK : Hid (pickB r ks (k, v) = ks.contains ac.kind) := Lib.hid hpk
        clear hcg HC hpk hd hfa
        obtain ⟨c1, c2, c3⟩ := ac
        go_wp2_with fail
        refine HCG.out.mono ?_
        rintro en w2 ⟨rfl, hb⟩
        have HB2 := Lib.hid (belows_then (belows_then HB.out HB.out.size HBA.out) (Nat.le_trans HB.out.size HBA.out.size) hb)
        have HO2 := Lib.hid ((HO.out.below HBA.out).below hb)
        have HZ2 := Lib.hid (blk_below HZA.out hb)
        have HK2 := Lib.hid (Sl.keep (fun k hk _ => (HB2.out.alloc HB2.out.size (.cells #[.int .i64 c1, .int .i64 c2, .bool c3] 83)).block k hk) HKS.out)
        have hzc := blk_cells HZ2.out
        have hzl := blk_lt HZ2.out
        simp only [Option.isSome_some]
        clear hb hc0 hc1 hadl
        cases hc : ks.contains c2
        · have HP2 := Lib.hid (HPK.out.trans hc)
          have HCC := Lib.hid (contains_any ks ka kc c2 _ HK2.out hkl hc)
          clear hc
          go_wp2_with fail
          refine HCC.out.mono ?_
          rintro en w3 ⟨rfl, rfl⟩
          go_wp2_with fail
          go_roundw
          case rel => exact ⟨n + 1, _, rfl, by omega, by go_num, by rw [HN.out HP2.out]; exact HO2.out.alloc _, HB2.out.alloc HB2.out.size _⟩
          case measure => simp [intOf]; omega
        · have HP2 := Lib.hid (HPK.out.trans hc)
          have HCC := Lib.hid (contains_any ks ka kc c2 _ HK2.out hkl hc)
          clear hc
          have HOA := Lib.hid ((HO2.out.alloc (.cells #[.int .i64 c1, .int .i64 c2, .bool c3] 83)).alloc (.cells #[.int .i64 k, .int .i64 v] 94))
          have HBB := Lib.hid ((HB2.out.alloc HB2.out.size (.cells #[.int .i64 c1, .int .i64 c2, .bool c3] 83)).alloc (by have := HB2.out.size; simp; omega) (.cells #[.int .i64 k, .int .i64 v] 94))
          have HSL : Hid (Sl tBal ((w2.alloc (.cells #[.int .i64 c1, .int .i64 c2, .bool c3] 83)).alloc (.cells #[.int .i64 k, .int .i64 v] 94)) (fun kk => some kk ≠ vo.ownBlock ∧ kk < ((w2.alloc (.cells #[.int .i64 c1, .int .i64 c2, .bool c3] 83)).alloc (.cells #[.int .i64 k, .int .i64 v] 94)).heap.size) (some ⟨w2.heap.size + 1, 0, none⟩) [(k, v)]) :=
            Lib.hid (sl_one2 tBal (x := (k, v)) rfl (by have := blk_new (w2.alloc (.cells #[.int .i64 c1, .int .i64 c2, .bool c3] 83)) (.cells #[.int .i64 k, .int .i64 v] 94); simpa using this) ⟨fun e => by have := (HO2.out.lt _ e.symm).2; omega, by simp⟩ (bal_mk (k, v) G0.out G1.out))
          have h63 : ((l.take n).filter (pickB r ks)).length + [((k, v) : Int × Int)].length ≤ maxLen := by simp only [List.length_cons, List.length_nil]; unfold maxLen; omega
          have hby : (((l.take n).filter (pickB r ks)).length + [((k, v) : Int × Int)].length) * 16 ≤ 140737488355328 := by simp only [List.length_cons, List.length_nil]; omega
          go_wp2_with fail
          refine HCC.out.mono ?_
          rintro en w3 ⟨rfl, rfl⟩
          go_wp2_with (at_builtin; refine wp_app (T := tBal) rfl _ _ 32 rfl i0 (.agg #[.int .i64 0, .int .i64 0]) 16 Tryz.underlying32 hi hz0 hz1 hz2 rfl (by decide) bal_one w.heap.size vo ((l.take n).filter (pickB r ks)) rfl HOA.out ⟨w2.heap.size + 1, 0, none⟩ 1 [(k, v)] rfl HSL.out h63 hby HBB.out.size ?_; intro v3 w3 hown hg hnil hat; have HO3 := Lib.hid hown; have HB3 := Lib.hid (Below.grown HBB.out hg HBB.out.size (fun k e => (HOA.out.lt k e).1)); clear hown hg hnil hat)
          go_roundw
          case rel => exact ⟨n + 1, _, rfl, by omega, by go_num, by rw [HY.out HP2.out]; exact HO3.out, HB3.out⟩
          case measure => simp [intOf]; omega
    · have HL : Hid (l.take n = l) := Lib.hid (take_all hn hlt)
      have hown := HO.out
      rw [HL.out] at hown
      have HW := Lib.hid hown
      clear hown
      go_wp2_with fail
      go_ret
      exact ⟨_, rfl, HW.out, HB.out⟩

set_option maxHeartbeats 4000000 in
set_option maxRecDepth 100000 in
theorem pick_nil (w : World) (l : List (Int × Int)) (a : Option Addr) (cap : Nat) (ks : List Int) (ka : Option Addr) (kc : Nat) {F : Nat → Prop} (hs : Sl tBal w F a l) (hl : l.length ≤ 1000) :
    Calls Tryz.prog 92 #[.pointer none, .slice a l.length cap, .slice ka ks.length kc] w fun e w' => e = .returned (.slice none 0 0) ∧ Below w.heap.size w w' := by
  have HS := Lib.hid hs
  clear hs
  go_enter Tryz.func92, Tryz.ntmps92
  go_wp2_with fail
  go_loopw [7, 14] (fun vo vi wr => ∃ (n : Nat), vo = .slice none 0 0 ∧ n ≤ l.length ∧ vi = .int .i64 n ∧ Below w.heap.size w wr) (fun _ vi _ => l.length - (intOf vi).toNat)
  case atStart => exact ⟨0, rfl, Nat.zero_le _, rfl, Below.refl _ _⟩
  case round =>
    obtain ⟨n, rfl, hn, rfl, hb⟩ := hrel
    have HB := Lib.hid hb
    clear hb
    by_cases hlt : n < l.length
    · obtain ⟨ad, rfl, _, hadl, hc0, hc1, g0, g1⟩ := bal_at (Sl.keep (fun k hk _ => HB.out.block k hk) HS.out) n hlt
      generalize l[n] = x at *
      obtain ⟨k, v⟩ := x
      simp only at hc0 hc1 g0 g1
      have HBA : Hid (Below w.heap.size w (wr.alloc (.cells #[.int .i64 k, .int .i64 v] 94))) := Lib.hid (HB.out.alloc HB.out.size _)
      clear g0 g1
      go_wp2_with fail
      refine (chget_nil _ k).mono ?_
      rintro en w2 ⟨rfl, hb⟩
      have HB2 := Lib.hid (belows_then HBA.out HBA.out.size hb)
      clear hb
      go_wp2_with fail
      go_roundw
      case rel => exact ⟨n + 1, rfl, by omega, by go_num, HB2.out.alloc HB2.out.size _⟩
      case measure => simp [intOf]; omega
    · go_wp2_with fail
      go_ret
      exact ⟨rfl, HB.out⟩
end Go.Proofs.YtfnmlpnncjhnmaaGreat


/- income: balances with their signs turned, sums, what is left. -/
set_option linter.unusedVariables false
set_option linter.unusedSimpArgs false
namespace Go.Proofs.YtfnmlpnncjhnmaaGreat
open Go.RowKit Go.Maps Go.Deep

def negB (x : Int × Int) : Int × Int := (x.1, -x.2)
theorem i64_ofB {n : Int} (h1 : -9223372036854775808 ≤ n) (h2 : n ≤ 9223372036854775807) : I64 n := by
  unfold I64 Lit.wf
  simp [IntKind.min, IntKind.max, IntKind.bits, IntKind.signed]
  omega
theorem wrap_is {n : Int} (h1 : -9223372036854775808 ≤ n) (h2 : n ≤ 9223372036854775807) : IntKind.i64.wrap n = n := by
  simp only [IntKind.wrap, IntKind.bits, IntKind.signed, Int.reducePow]
  simp
  split <;> omega

set_option maxHeartbeats 4000000 in
set_option maxRecDepth 100000 in
theorem shTurned_any (l : List (Int × Int)) (a : Option Addr) (cap : Nat) (w : World) {F : Nat → Prop} (hs : Sl tBal w F a l) (hl : l.length ≤ 1000) (hfit : ∀ x ∈ l, fitsB x.2 = true) :
    Calls Tryz.prog 143 #[.slice a l.length cap] w fun e w' => ∃ v, e = .returned v ∧ OwnL tBal w' w.heap.size v (l.map negB) ∧ Below w.heap.size w w' := by
  have HS := Lib.hid hs
  have HF := Lib.hid hfit
  clear hs hfit
  obtain ⟨i0, hi, hz0, hz1, hz2⟩ := info_parts infoBal
  go_enter Tryz.func143, Tryz.ntmps143
  go_wp2_with fail
  go_loopw [3, 8] (fun vo vi wr => ∃ (n : Nat) (vx : Value), vx = vo ∧ n ≤ l.length ∧ vi = .int .i64 n ∧ OwnL tBal wr w.heap.size vx ((l.take n).map negB) ∧ Below w.heap.size w wr) (fun _ vi _ => l.length - (intOf vi).toNat)
  case atStart => exact ⟨0, _, rfl, Nat.zero_le _, rfl, OwnL.nil _ _, Below.refl _ _⟩
  case round =>
    obtain ⟨n, vo, rfl, hn, rfl, ho, hb⟩ := hrel
    have HO := Lib.hid ho
    have HB := Lib.hid hb
    clear ho hb
    by_cases hlt : n < l.length
    · obtain ⟨ad, rfl, _, hadl, hc0, hc1, g0, g1⟩ := bal_at (Sl.keep (fun k hk _ => HB.out.block k hk) HS.out) n hlt
      have HTK : Hid ((l.take (n + 1)).map negB = (l.take n).map negB ++ [negB l[n]]) := Lib.hid (by rw [List.take_succ_eq_append_getElem hlt, List.map_append]; rfl)
      have hnum : ((l.take n).map negB).length ≤ 1000 := by rw [List.length_map, List.length_take]; omega
      have hfn := HF.out _ (List.getElem_mem hlt)
      generalize l[n] = x at *
      obtain ⟨k, v⟩ := x
      simp only at hc0 hc1 g0 g1 HTK hfn
      have hw : wrap64 (-v) = -v := by unfold fitsB at hfn; simp at hfn; unfold wrap64; omega
      have g2 : I64 (-v) := by unfold fitsB at hfn; simp at hfn; exact i64_ofB (by omega) (by omega)
      have HOA := Lib.hid ((HO.out.alloc (.cells #[.int .i64 k, .int .i64 v] 94)).alloc (.cells #[.int .i64 k, .int .i64 (-v)] 94))
      have HBA := Lib.hid ((HB.out.alloc HB.out.size (.cells #[.int .i64 k, .int .i64 v] 94)).alloc (by have := HB.out.size; simp; omega) (.cells #[.int .i64 k, .int .i64 (-v)] 94))
      have HSL : Hid (Sl tBal ((wr.alloc (.cells #[.int .i64 k, .int .i64 v] 94)).alloc (.cells #[.int .i64 k, .int .i64 (-v)] 94)) (fun kk => some kk ≠ vo.ownBlock ∧ kk < ((wr.alloc (.cells #[.int .i64 k, .int .i64 v] 94)).alloc (.cells #[.int .i64 k, .int .i64 (-v)] 94)).heap.size) (some ⟨wr.heap.size + 1, 0, none⟩) [negB (k, v)]) :=
        Lib.hid (sl_one2 tBal (x := (k, -v)) rfl (by have := blk_new (wr.alloc (.cells #[.int .i64 k, .int .i64 v] 94)) (.cells #[.int .i64 k, .int .i64 (-v)] 94); simpa using this) ⟨fun e => by have := (HO.out.lt _ e.symm).2; omega, by simp⟩ (bal_mk (k, -v) g0 g2))
      have h63 : ((l.take n).map negB).length + [negB (k, v)].length ≤ maxLen := by simp only [List.length_cons, List.length_nil]; unfold maxLen; omega
      have hby : (((l.take n).map negB).length + [negB (k, v)].length) * 16 ≤ 140737488355328 := by simp only [List.length_cons, List.length_nil]; omega
      clear hfn g0 g1 g2
      go_wp2_with (at_builtin; refine wp_app (T := tBal) rfl _ _ 32 rfl i0 (.agg #[.int .i64 0, .int .i64 0]) 16 Tryz.underlying32 hi hz0 hz1 hz2 rfl (by decide) bal_one w.heap.size vo ((l.take n).map negB) rfl HOA.out ⟨wr.heap.size + 1, 0, none⟩ 1 [negB (k, v)] rfl HSL.out h63 hby HBA.out.size ?_; intro v3 w3 hown hg hnil hat; have HO3 := Lib.hid hown; have HB3 := Lib.hid (Below.grown HBA.out hg HBA.out.size (fun k e => (HOA.out.lt k e).1)); clear hown hg hnil hat)
      go_roundw
      case rel => exact ⟨n + 1, _, rfl, by omega, by go_num, by rw [HTK.out]; exact HO3.out, HB3.out⟩
      case measure => simp [intOf]; omega
    · have HL : Hid (l.take n = l) := Lib.hid (take_all hn hlt)
      have hown := HO.out
      rw [HL.out] at hown
      have HW := Lib.hid hown
      clear hown
      go_wp2_with fail
      go_ret
      exact ⟨_, rfl, HW.out, HB.out⟩
set_option maxHeartbeats 4000000 in
set_option maxRecDepth 100000 in
theorem iTurned_any (l : List (Int × Int)) (a : Option Addr) (cap : Nat) (w : World) {F : Nat → Prop} (hs : Sl tBal w F a l) (hl : l.length ≤ 1000) (hfit : ∀ x ∈ l, fitsB x.2 = true) :
    Calls Tryz.prog 93 #[.slice a l.length cap] w fun e w' => ∃ v, e = .returned v ∧ OwnL tBal w' w.heap.size v (l.map negB) ∧ Below w.heap.size w w' := by
  have HS := Lib.hid hs
  have HF := Lib.hid hfit
  clear hs hfit
  obtain ⟨i0, hi, hz0, hz1, hz2⟩ := info_parts infoBal
  go_enter Tryz.func93, Tryz.ntmps93
  go_wp2_with fail
  go_loopw [3, 8] (fun vo vi wr => ∃ (n : Nat) (vx : Value), vx = vo ∧ n ≤ l.length ∧ vi = .int .i64 n ∧ OwnL tBal wr w.heap.size vx ((l.take n).map negB) ∧ Below w.heap.size w wr) (fun _ vi _ => l.length - (intOf vi).toNat)
  case atStart => exact ⟨0, _, rfl, Nat.zero_le _, rfl, OwnL.nil _ _, Below.refl _ _⟩
  case round =>
    obtain ⟨n, vo, rfl, hn, rfl, ho, hb⟩ := hrel
    have HO := Lib.hid ho
    have HB := Lib.hid hb
    clear ho hb
    by_cases hlt : n < l.length
    · obtain ⟨ad, rfl, _, hadl, hc0, hc1, g0, g1⟩ := bal_at (Sl.keep (fun k hk _ => HB.out.block k hk) HS.out) n hlt
      have HTK : Hid ((l.take (n + 1)).map negB = (l.take n).map negB ++ [negB l[n]]) := Lib.hid (by rw [List.take_succ_eq_append_getElem hlt, List.map_append]; rfl)
      have hnum : ((l.take n).map negB).length ≤ 1000 := by rw [List.length_map, List.length_take]; omega
      have hfn := HF.out _ (List.getElem_mem hlt)
      generalize l[n] = x at *
      obtain ⟨k, v⟩ := x
      simp only at hc0 hc1 g0 g1 HTK hfn
      have hw : wrap64 (-v) = -v := by unfold fitsB at hfn; simp at hfn; unfold wrap64; omega
      have g2 : I64 (-v) := by unfold fitsB at hfn; simp at hfn; exact i64_ofB (by omega) (by omega)
      have HOA := Lib.hid ((HO.out.alloc (.cells #[.int .i64 k, .int .i64 v] 94)).alloc (.cells #[.int .i64 k, .int .i64 (-v)] 94))
      have HBA := Lib.hid ((HB.out.alloc HB.out.size (.cells #[.int .i64 k, .int .i64 v] 94)).alloc (by have := HB.out.size; simp; omega) (.cells #[.int .i64 k, .int .i64 (-v)] 94))
      have HSL : Hid (Sl tBal ((wr.alloc (.cells #[.int .i64 k, .int .i64 v] 94)).alloc (.cells #[.int .i64 k, .int .i64 (-v)] 94)) (fun kk => some kk ≠ vo.ownBlock ∧ kk < ((wr.alloc (.cells #[.int .i64 k, .int .i64 v] 94)).alloc (.cells #[.int .i64 k, .int .i64 (-v)] 94)).heap.size) (some ⟨wr.heap.size + 1, 0, none⟩) [negB (k, v)]) :=
        Lib.hid (sl_one2 tBal (x := (k, -v)) rfl (by have := blk_new (wr.alloc (.cells #[.int .i64 k, .int .i64 v] 94)) (.cells #[.int .i64 k, .int .i64 (-v)] 94); simpa using this) ⟨fun e => by have := (HO.out.lt _ e.symm).2; omega, by simp⟩ (bal_mk (k, -v) g0 g2))
      have h63 : ((l.take n).map negB).length + [negB (k, v)].length ≤ maxLen := by simp only [List.length_cons, List.length_nil]; unfold maxLen; omega
      have hby : (((l.take n).map negB).length + [negB (k, v)].length) * 16 ≤ 140737488355328 := by simp only [List.length_cons, List.length_nil]; omega
      clear hfn g0 g1 g2
      go_wp2_with (at_builtin; refine wp_app (T := tBal) rfl _ _ 136 rfl i0 (.agg #[.int .i64 0, .int .i64 0]) 16 Tryz.underlying136 hi hz0 hz1 hz2 rfl (by decide) bal_one w.heap.size vo ((l.take n).map negB) rfl HOA.out ⟨wr.heap.size + 1, 0, none⟩ 1 [negB (k, v)] rfl HSL.out h63 hby HBA.out.size ?_; intro v3 w3 hown hg hnil hat; have HO3 := Lib.hid hown; have HB3 := Lib.hid (Below.grown HBA.out hg HBA.out.size (fun k e => (HOA.out.lt k e).1)); clear hown hg hnil hat)
      go_roundw
      case rel => exact ⟨n + 1, _, rfl, by omega, by go_num, by rw [HTK.out]; exact HO3.out, HB3.out⟩
      case measure => simp [intOf]; omega
    · have HL : Hid (l.take n = l) := Lib.hid (take_all hn hlt)
      have hown := HO.out
      rw [HL.out] at hown
      have HW := Lib.hid hown
      clear hown
      go_wp2_with fail
      go_ret
      exact ⟨_, rfl, HW.out, HB.out⟩

set_option maxHeartbeats 1000000 in
theorem iSum_any (l : List (Int × Int)) (a : Option Addr) (cap : Nat) (w : World) {F : Nat → Prop} (hs : Sl tBal w F a l) (hl : l.length ≤ 100000) {r : Int × Int} (hr : addM (l.map (·.2)) = r) :
    Calls Tryz.prog 94 #[.slice a l.length cap] w fun e w' => e = .returned (.tuple #[.int .i64 r.1, .int .i64 r.2]) ∧ Below w.heap.size w w' := by
  have HC := Lib.hid (tsum_any l a cap w hs hl)
  rw [hr] at HC
  clear hs hr
  go_enter Tryz.func94, Tryz.ntmps94
  go_wp2_with fail
  refine HC.out.mono ?_
  rintro en w' ⟨rfl, hb⟩
  go_wp2_with fail
  go_ret2
  exact ⟨rfl, hb⟩

theorem madd2 (x y : Int) (b : Nat) (W : World) (hb : W.heap[b]? = some (.cells #[.int .i64 x, .int .i64 y] 3 (0, 0))) (wx : I64 x) (wy : I64 y) {r : Int × Int} (hr : addM [x, y] = r) :
    Calls Tryz.prog 49 #[.slice (some ⟨b, 0, none⟩) 2 2] W fun e w' => e = .returned (.tuple #[.int .i64 r.1, .int .i64 r.2]) ∧ Below W.heap.size W w' := by
  have := madd_any [x, y] (some ⟨b, 0, none⟩) 2 W (sl_two x y b W hb wx wy) (by simp)
  rw [hr] at this
  exact this

set_option maxHeartbeats 4000000 in
set_option maxRecDepth 100000 in
theorem iNet_any (b : Nat) (v0 v1 : Value) (x y z : Int) (w : World) (hb : w.heap[b]? = some (.cells #[v0, v1, .int .i64 x, .int .i64 y, .int .i64 z] 62 (0, 0))) (hx : fitsB x = true) (hy : fitsB y = true) {r : Int × Int} (hr : addM [x, -y] = r) :
    Calls Tryz.prog 95 #[.pointer (some ⟨b, 0, none⟩)] w fun e w' => e = .returned (.tuple #[.int .i64 r.1, .int .i64 r.2]) ∧ Below w.heap.size w w' := by
  have hw : IntKind.i64.wrap (-y) = -y := by unfold fitsB at hy; simp at hy; exact wrap_is (by omega) (by omega)
  have H1 : Hid (I64 x) := Lib.hid (by unfold fitsB at hx; simp at hx; exact i64_ofB (by omega) (by omega))
  have H2 : Hid (I64 (-y)) := Lib.hid (by unfold fitsB at hy; simp at hy; exact i64_ofB (by omega) (by omega))
  have hc := blk_cells hb
  have hlt := blk_lt hb
  have HR := Lib.hid hr
  clear hr hx hy
  go_enter Tryz.func95, Tryz.ntmps95
  go_wp2_with fail
  go_region_with (go_at_call 49; refine (madd2 x (-y) _ _ (by first | exact blk_new w _ | exact blk_new w.drew _) H1.out H2.out HR.out).mono ?_; rintro e w' ⟨rfl, hb⟩)
  all_goals
    go_wp2_with fail
    go_ret2
    first | exact ⟨rfl, belows_then (Below.drew ((Below.refl w.heap.size w).alloc (Nat.le_refl _) _)) (by simp) hb⟩ | exact ⟨rfl, belows_then (Below.alloc (Below.drew (Below.refl w.heap.size w)) (Nat.le_refl _) _) (by simp) hb⟩
end Go.Proofs.YtfnmlpnncjhnmaaGreat
