/- group: shared, amounts. -/
import Derived.Test.YtgggpaacagbmcaaGreatX23GroupInner
import Derived.Test.YtgggpaacagbmcaaGreatX27GroupInner
set_option linter.unusedVariables false
set_option linter.unusedSimpArgs false
namespace Go.Proofs.YtgggpaacagbmcaaGreat
open Go.RowKit Go.Maps Go.Deep

theorem shrB_cases (r : List Ac) (k v : Int) {b : Bool} (h : shrB r (k, v) = b) : (findA r k = none ∧ b = true) ∨ ∃ a, findA r k = some a ∧ (a.kind = 3 ∧ b = true ∨ (a.kind == 3) = false ∧ (a.kind = 4 ∧ b = true ∨ (a.kind == 4) = false ∧ (a.kind = 5 ∧ b = true ∨ (a.kind == 5) = false ∧ b = false))) := by
  unfold shrB at h
  simp only at h
  cases hf : findA r k with
  | none => rw [hf] at h; exact .inl ⟨rfl, h.symm⟩
  | some a =>
    rw [hf] at h
    refine .inr ⟨a, rfl, ?_⟩
    simp only at h
    subst h
    by_cases h3 : a.kind = 3 <;> by_cases h4 : a.kind = 4 <;> by_cases h5 : a.kind = 5 <;> simp [h3, h4, h5]
set_option maxHeartbeats 8000000 in
set_option maxRecDepth 100000 in
theorem grShared_any {w : World} {W : Nat} {c g : Nat} {p : Int} {ma : Option Addr} {ms : List Mb} {mc : Nat} {x4 x5 x6 x7 : Value} (hw : w.heap[W]? = some (.cells (wkC c g p ma ms mc x4 x5 x6 x7) 96 (0, 0)))
    {mb : Option Nat} {r : List Ac} (hc : ChartAt w c mb r) (k v : Int) (hk : I64 k) :
    Calls Tryz.prog 96 #[.pointer (some ⟨W, 0, none⟩), .agg #[.int .i64 k, .int .i64 v]] w fun en w' => en = .returned (.bool (shrB r (k, v))) ∧ Below w.heap.size w w' := by
  have HW := Lib.hid hw
  have HCH := Lib.hid hc
  have HKK := Lib.hid hk
  have HWX0 := Lib.hid ((Below.refl w.heap.size w).alloc (Nat.le_refl _) (.cells #[.int .i64 k, .int .i64 v] 62))
  have HZA0 := Lib.hid (blk_new w (.cells #[.int .i64 k, .int .i64 v] 62))
  clear hw hc hk
  obtain ⟨res, hres⟩ : ∃ res, shrB r (k, v) = res := ⟨_, rfl⟩
  rw [hres]
  have HR := Lib.hid (shrB_cases r k v hres)
  clear hres
  go_enter Tryz.func96, Tryz.ntmps96
  go_wp2_with fail
  refine abs_world (S := fun wx => Below w.heap.size w wx ∧ wx.heap[w.heap.size]? = some (.cells #[.int .i64 k, .int .i64 v] 62 (0, 0))) ?_ ⟨HWX0.out, HZA0.out⟩
  clear HWX0 HZA0
  rintro wx ⟨hbx, hza⟩
  have HWX := Lib.hid hbx
  have HZA := Lib.hid hza
  have HMX := Lib.hid (blk_below HW.out hbx)
  have hlt1 := blk_lt hza
  have hlt2 := blk_lt HMX.out
  have hS : SM wx wx := Below.refl _ _
  have HC : Hid (∀ W, SM wx W → Calls Tryz.prog 135 #[.pointer (some ⟨c, 0, none⟩), .int .i64 k] W fun en w' => en = .returned (.tuple #[acv (acD r k), .bool (findA r k).isSome]) ∧ Below W.heap.size W w' ∧ SM wx w') := Lib.hid (fun W hb => by
    refine (chget_any (HCH.out.below (HWX.out.trans (Below.mono (show Below wx.heap.size wx W from hb) HWX.out.size))) k HKK.out).mono ?_
    rintro en w' ⟨rfl, hb'⟩
    exact ⟨rfl, hb', SM.call hb hb'⟩)
  have KS : Hid (∀ V, SM wx V → (V.cell? ⟨W, 0, none⟩ = some (.pointer (some ⟨c, 0, none⟩)) ∧ V.cell? ⟨w.heap.size, 0, none⟩ = some (.int .i64 k))) := Lib.hid (fun V h => ⟨SM.at' HMX.out h 0 rfl, SM.at' HZA.out h 0 rfl⟩)
  have HZ0 : Hid ((wx.alloc (.cells #[.int .i64 0, .int .i64 0, .bool false] 79)).drew.heap[wx.heap.size]? = some (.cells #[.int .i64 0, .int .i64 0, .bool false] 79 (0, 0))) := Lib.hid (blk_new wx _)
  have HZ1 : Hid ((wx.drew.alloc (.cells #[.int .i64 0, .int .i64 0, .bool false] 79)).heap[wx.heap.size]? = some (.cells #[.int .i64 0, .int .i64 0, .bool false] 79 (0, 0))) := Lib.hid (blk_new wx.drew _)
  clear hbx hza HCH HKK
  obtain ⟨ac, hac⟩ : ∃ ac, acD r k = ac := ⟨_, rfl⟩
  obtain ⟨q, hq⟩ : ∃ q, findA r k = q := ⟨_, rfl⟩
  have HQ : Hid (∀ a, q = some a → a = ac) := Lib.hid (fun a h => by rw [← hac]; unfold acD; rw [hq, h]; rfl)
  rw [hac, hq] at HC
  rw [hq] at HR
  clear hac hq
  obtain ⟨b1, b2, b3⟩ := ac
  go_region_held3 (fun w' => w'.cell? ⟨W, 0, none⟩ = some (.pointer (some ⟨c, 0, none⟩)) ∧ w'.cell? ⟨w.heap.size, 0, none⟩ = some (.int .i64 k)) (first | with_reducible exact KS.out _ (SM.set (SM.set (SM.set HB1.out (Nat.le_refl _) _) (Nat.le_refl _) _) (Nat.le_refl _) _) | with_reducible exact KS.out _ (SM.alloc HB1.out _) | with_reducible exact KS.out _ HB1.out | with_reducible exact KS.out _ (SM.alloc (SM.drew hS) _) | with_reducible exact KS.out _ (SM.drew (SM.alloc hS _)) | with_reducible exact KS.out _ (SM.drew hS)) ((go_at_call 135; refine (HC.out _ (by first | with_reducible exact SM.drew hS | with_reducible exact SM.alloc (SM.drew hS) _ | with_reducible exact SM.drew (SM.alloc hS _))).mono ?_; rintro en w1 ⟨rfl, hb, hsm⟩; have HB1 := Lib.hid hsm; (first | (with_reducible have hZ' := blk_below HZ0.out hb; have HZC := Lib.hid hZ'; have hcz := blk_cells hZ'; have hfz := blk_frz hZ'; have hlz := blk_lt hZ'; clear hZ') | (with_reducible have hZ' := blk_below HZ1.out hb; have HZC := Lib.hid hZ'; have hcz := blk_cells hZ'; have hfz := blk_frz hZ'; have hlz := blk_lt hZ'; clear hZ') | skip); clear hb hsm))
  · obtain ⟨wz, hwz⟩ : ∃ wz, w1.alloc (.cells #[.int .i64 b1, .int .i64 b2, .bool b3] 79) = wz := ⟨_, rfl⟩
    have hqc : wz.heap[w1.heap.size]? = some (.cells #[.int .i64 b1, .int .i64 b2, .bool b3] 79 (0, 0)) := by rw [← hwz]; exact blk_new w1 _
    rw [hwz]
    have hsz : SM wx wz := by rw [← hwz]; exact SM.alloc HB1.out _
    clear hwz
    have HFIN := Lib.hid (belows_then HWX.out HWX.out.size (show Below wx.heap.size wx wz from hsz))
    have hcq := blk_cells hqc
    have hlq := blk_lt hqc
    clear hqc hsz HB1 KS HC HZ0 HZ1 hS hlt1 hlt2 HMX HZA HWX
    rcases HR.out with ⟨rfl, rfl⟩ | ⟨a, rfl, h⟩
    · simp only [Option.isSome_none]
      go_wp2_with fail
      go_ret
      exact ⟨rfl, HFIN.out⟩
    · obtain rfl := HQ.out a rfl
      simp only [Option.isSome_some]
      rcases h with ⟨h, rfl⟩ | ⟨h3, ⟨h, rfl⟩ | ⟨h4, ⟨h, rfl⟩ | ⟨h5, rfl⟩⟩⟩
      all_goals
        simp only at *
        try subst h
        clear HR HQ
        go_wp2_with fail
        go_ret
        exact ⟨rfl, HFIN.out⟩
  · obtain ⟨wz, hwz⟩ : ∃ wz, ((w1.setCell ⟨wx.heap.size, 0, none⟩ (.int .i64 b1)).setCell ⟨wx.heap.size, 1, none⟩ (.int .i64 b2)).setCell ⟨wx.heap.size, 2, none⟩ (.bool b3) = wz := ⟨_, rfl⟩
    have hqc : wz.heap[wx.heap.size]? = some (.cells #[.int .i64 b1, .int .i64 b2, .bool b3] 79 (0, 0)) := by rw [← hwz]; have := blk_set (blk_set (blk_set HZC.out 0 (.int .i64 b1)) 1 (.int .i64 b2)) 2 (.bool b3); simpa using this
    rw [hwz]
    have hsz : SM wx wz := by rw [← hwz]; exact SM.set (SM.set (SM.set HB1.out (Nat.le_refl _) _) (Nat.le_refl _) _) (Nat.le_refl _) _
    clear hwz hcz hfz hlz HZC
    have HFIN := Lib.hid (belows_then HWX.out HWX.out.size (show Below wx.heap.size wx wz from hsz))
    have hcq := blk_cells hqc
    have hlq := blk_lt hqc
    clear hqc hsz HB1 KS HC HZ0 HZ1 hS hlt1 hlt2 HMX HZA HWX
    rcases HR.out with ⟨rfl, rfl⟩ | ⟨a, rfl, h⟩
    · simp only [Option.isSome_none]
      go_wp2_with fail
      go_ret
      exact ⟨rfl, HFIN.out⟩
    · obtain rfl := HQ.out a rfl
      simp only [Option.isSome_some]
      rcases h with ⟨h, rfl⟩ | ⟨h3, ⟨h, rfl⟩ | ⟨h4, ⟨h, rfl⟩ | ⟨h5, rfl⟩⟩⟩
      all_goals
        simp only at *
        try subst h
        clear HR HQ
        go_wp2_with fail
        go_ret
        exact ⟨rfl, HFIN.out⟩

set_option maxHeartbeats 4000000 in
set_option maxRecDepth 100000 in
theorem amounts_pos (l : List (Int × Int)) (a : Option Addr) (cap : Nat) (w : World) {F : Nat → Prop} (hs : Sl tBal w F a l) (hl : l.length ≤ 100000) (hf : ∀ x ∈ l, fitsB x.2 = true) :
    Calls Tryz.prog 100 #[.slice a l.length cap, .int .i64 1] w fun en w' => ∃ v, en = .returned v ∧ OwnL tInt w' w.heap.size v (l.map (·.2)) ∧ Below w.heap.size w w' := by
  have HS := Lib.hid hs
  have HF := Lib.hid hf
  have hl' : l.length ≤ 9223372036854775807 := by omega
  clear hs hf
  obtain ⟨i0, hi, hz0, hz1, hz2⟩ := info_parts infoInt
  go_enter Tryz.func100, Tryz.ntmps100
  go_wp2_with fail
  go_loopw [5, 10] (fun vo vi wr => ∃ (n : Nat) (vx : Value), vx = vo ∧ n ≤ l.length ∧ vi = .int .i64 n ∧ OwnL tInt wr w.heap.size vx ((l.take n).map (·.2)) ∧ Below w.heap.size w wr) (fun _ vi _ => l.length - (Go.RowKit.intOf vi).toNat)
  case atStart => exact ⟨0, _, rfl, Nat.zero_le _, rfl, OwnL.nil _ _, Below.refl _ _⟩
  case round =>
    obtain ⟨n, vo, rfl, hn, rfl, ho, hb⟩ := hrel
    have HO := Lib.hid ho
    have HB := Lib.hid hb
    clear ho hb
    by_cases hlt : n < l.length
    · obtain ⟨ad, rfl, _, hadl, hc0, hc1, g0, g1⟩ := bal_at (Sl.keep (fun k hk _ => HB.out.block k hk) HS.out) n hlt
      have hfi := HF.out _ (List.getElem_mem hlt)
      have HST : Hid ((l.take (n + 1)).map (·.2) = (l.take n).map (·.2) ++ [l[n].2]) := Lib.hid (by rw [List.take_succ_eq_append_getElem hlt, List.map_append]; rfl)
      have hnum : ((l.take n).map (·.2)).length ≤ 100000 := by rw [List.length_map, List.length_take]; omega
      obtain ⟨X, hX⟩ : ∃ X, (l.take n).map (·.2) = X := ⟨_, rfl⟩
      rw [hX] at HST hnum
      have HO' := HO.out
      rw [hX] at HO'
      generalize l[n] = x at *
      obtain ⟨k, v⟩ := x
      simp only at hc0 hc1 g0 g1 hfi HST
      have hbd : -1000000000000000 ≤ v ∧ v ≤ 1000000000000000 := by simpa [fitsB] using hfi
      have HWF : Hid (I64 (v)) := Lib.hid (by unfold I64 Lit.wf; simp [IntKind.min, IntKind.max, IntKind.bits, IntKind.signed]; omega)
      have HOA := Lib.hid ((HO'.alloc (.cells #[.int .i64 k, .int .i64 v] 62)).alloc (.cells #[.int .i64 (v)] 3))
      have HBA := Lib.hid ((HB.out.alloc HB.out.size (.cells #[.int .i64 k, .int .i64 v] 62)).alloc (by have := HB.out.size; simp; omega) (.cells #[.int .i64 (v)] 3))
      have HSL : Hid (Sl tInt ((wr.alloc (.cells #[.int .i64 k, .int .i64 v] 62)).alloc (.cells #[.int .i64 (v)] 3)) (fun kk => some kk ≠ vo.ownBlock ∧ kk < ((wr.alloc (.cells #[.int .i64 k, .int .i64 v] 62)).alloc (.cells #[.int .i64 (v)] 3)).heap.size) (some ⟨wr.heap.size + 1, 0, none⟩) [v]) :=
        Lib.hid (sl_oneI (by have := blk_new (wr.alloc (.cells #[.int .i64 k, .int .i64 v] 62)) (.cells #[.int .i64 (v)] 3); simpa using this) ⟨fun e => by have := (HO.out.lt _ e.symm).2; omega, by simp⟩ HWF.out)
      have h63 : X.length + [(v : Int)].length ≤ maxLen := by simp only [List.length_cons, List.length_nil]; unfold maxLen; omega
      have hby : (X.length + [(v : Int)].length) * 8 ≤ 140737488355328 := by simp only [List.length_cons, List.length_nil]; omega
      have HH63 := Lib.hid (And.intro h63 hby)
      clear g0 g1 hfi h63 hby hnum hX HO HO'
      go_wp2_with (at_builtin; refine wp_app (T := tInt) rfl _ _ 94 rfl i0 (.int .i64 0) 8 Tryz.underlying94 hi hz0 hz1 hz2 rfl (by decide) int_one w.heap.size vo X rfl HOA.out ⟨wr.heap.size + 1, 0, none⟩ 1 [(v : Int)] rfl HSL.out HH63.out.1 HH63.out.2 HBA.out.size ?_; intro v3 w3 hown hg hnil hat; have HO3 := Lib.hid hown; have HB3 := Lib.hid (Below.grown HBA.out hg HBA.out.size (fun k e => (HOA.out.lt k e).1)); clear hown hg hnil hat)
      go_roundw
      case rel => exact ⟨n + 1, _, rfl, by omega, by go_num, by rw [HST.out]; exact HO3.out, HB3.out⟩
      case measure => simp [Go.RowKit.intOf]; omega
    · have HL : Hid (l.take n = l) := Lib.hid (take_all hn hlt)
      have hown := HO.out
      rw [HL.out] at hown
      have HOW := Lib.hid hown
      clear hown
      go_wp2_with fail
      go_ret
      exact ⟨vo, rfl, HOW.out, HB.out⟩
set_option maxHeartbeats 4000000 in
set_option maxRecDepth 100000 in
theorem amounts_neg (l : List (Int × Int)) (a : Option Addr) (cap : Nat) (w : World) {F : Nat → Prop} (hs : Sl tBal w F a l) (hl : l.length ≤ 100000) (hf : ∀ x ∈ l, fitsB x.2 = true) :
    Calls Tryz.prog 100 #[.slice a l.length cap, .int .i64 (-1)] w fun en w' => ∃ v, en = .returned v ∧ OwnL tInt w' w.heap.size v (negA l) ∧ Below w.heap.size w w' := by
  have HS := Lib.hid hs
  have HF := Lib.hid hf
  have hl' : l.length ≤ 9223372036854775807 := by omega
  clear hs hf
  obtain ⟨i0, hi, hz0, hz1, hz2⟩ := info_parts infoInt
  go_enter Tryz.func100, Tryz.ntmps100
  go_wp2_with fail
  go_loopw [5, 10] (fun vo vi wr => ∃ (n : Nat) (vx : Value), vx = vo ∧ n ≤ l.length ∧ vi = .int .i64 n ∧ OwnL tInt wr w.heap.size vx (negA (l.take n)) ∧ Below w.heap.size w wr) (fun _ vi _ => l.length - (Go.RowKit.intOf vi).toNat)
  case atStart => exact ⟨0, _, rfl, Nat.zero_le _, rfl, OwnL.nil _ _, Below.refl _ _⟩
  case round =>
    obtain ⟨n, vo, rfl, hn, rfl, ho, hb⟩ := hrel
    have HO := Lib.hid ho
    have HB := Lib.hid hb
    clear ho hb
    by_cases hlt : n < l.length
    · obtain ⟨ad, rfl, _, hadl, hc0, hc1, g0, g1⟩ := bal_at (Sl.keep (fun k hk _ => HB.out.block k hk) HS.out) n hlt
      have hfi := HF.out _ (List.getElem_mem hlt)
      have HST : Hid (negA (l.take (n + 1)) = negA (l.take n) ++ [-l[n].2]) := Lib.hid (by unfold negA; rw [List.take_succ_eq_append_getElem hlt, List.map_append]; rfl)
      have hnum : (negA (l.take n)).length ≤ 100000 := by unfold negA; rw [List.length_map, List.length_take]; omega
      obtain ⟨X, hX⟩ : ∃ X, negA (l.take n) = X := ⟨_, rfl⟩
      rw [hX] at HST hnum
      have HO' := HO.out
      rw [hX] at HO'
      generalize l[n] = x at *
      obtain ⟨k, v⟩ := x
      simp only at hc0 hc1 g0 g1 hfi HST
      have hbd : -1000000000000000 ≤ v ∧ v ≤ 1000000000000000 := by simpa [fitsB] using hfi
      have HWF : Hid (I64 (-v)) := Lib.hid (by unfold I64 Lit.wf; simp [IntKind.min, IntKind.max, IntKind.bits, IntKind.signed]; omega)
      have HOA := Lib.hid ((HO'.alloc (.cells #[.int .i64 k, .int .i64 v] 62)).alloc (.cells #[.int .i64 (-v)] 3))
      have HBA := Lib.hid ((HB.out.alloc HB.out.size (.cells #[.int .i64 k, .int .i64 v] 62)).alloc (by have := HB.out.size; simp; omega) (.cells #[.int .i64 (-v)] 3))
      have HSL : Hid (Sl tInt ((wr.alloc (.cells #[.int .i64 k, .int .i64 v] 62)).alloc (.cells #[.int .i64 (-v)] 3)) (fun kk => some kk ≠ vo.ownBlock ∧ kk < ((wr.alloc (.cells #[.int .i64 k, .int .i64 v] 62)).alloc (.cells #[.int .i64 (-v)] 3)).heap.size) (some ⟨wr.heap.size + 1, 0, none⟩) [-v]) :=
        Lib.hid (sl_oneI (by have := blk_new (wr.alloc (.cells #[.int .i64 k, .int .i64 v] 62)) (.cells #[.int .i64 (-v)] 3); simpa using this) ⟨fun e => by have := (HO.out.lt _ e.symm).2; omega, by simp⟩ HWF.out)
      have h63 : X.length + [(-v : Int)].length ≤ maxLen := by simp only [List.length_cons, List.length_nil]; unfold maxLen; omega
      have hby : (X.length + [(-v : Int)].length) * 8 ≤ 140737488355328 := by simp only [List.length_cons, List.length_nil]; omega
      have HH63 := Lib.hid (And.intro h63 hby)
      clear g0 g1 hfi h63 hby hnum hX HO HO'
      go_wp2_with (at_builtin; refine wp_app (T := tInt) rfl _ _ 94 rfl i0 (.int .i64 0) 8 Tryz.underlying94 hi hz0 hz1 hz2 rfl (by decide) int_one w.heap.size vo X rfl HOA.out ⟨wr.heap.size + 1, 0, none⟩ 1 [(-v : Int)] rfl HSL.out HH63.out.1 HH63.out.2 HBA.out.size ?_; intro v3 w3 hown hg hnil hat; have HO3 := Lib.hid hown; have HB3 := Lib.hid (Below.grown HBA.out hg HBA.out.size (fun k e => (HOA.out.lt k e).1)); clear hown hg hnil hat)
      go_roundw
      case rel => exact ⟨n + 1, _, rfl, by omega, by go_num, by rw [HST.out]; exact HO3.out, HB3.out⟩
      case measure => simp [Go.RowKit.intOf]; omega
    · have HL : Hid (l.take n = l) := Lib.hid (take_all hn hlt)
      have hown := HO.out
      rw [HL.out] at hown
      have HOW := Lib.hid hown
      clear hown
      go_wp2_with fail
      go_ret
      exact ⟨vo, rfl, HOW.out, HB.out⟩
end Go.Proofs.YtgggpaacagbmcaaGreat
