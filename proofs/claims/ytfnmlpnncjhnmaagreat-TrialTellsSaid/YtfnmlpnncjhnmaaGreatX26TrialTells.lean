/- sheet: the maker's steps: what is retained, what this year came to. -/
import Derived.Test.YtfnmlpnncjhnmaaGreatX24TrialTells
set_option linter.unusedVariables false
set_option linter.unusedSimpArgs false
namespace Go.Proofs.YtfnmlpnncjhnmaaGreat
open Go.RowKit Go.Maps Go.Deep
variable {tb : Obj}

/-- what the years ahead came to; what this year did -/
def retT (r : List Ac) (J : List Jn) (e p : Int) : Int × Int := if janOf p == 0 then (0, 0) else ((incM r J e 0 (janOf p - 1)).1.2.2, (incM r J e 0 (janOf p - 1)).2)
def curT (r : List Ac) (J : List Jn) (e p : Int) : Int × Int := ((incM r J e (janOf p) p).1.2.2, (incM r J e (janOf p) p).2)
theorem jan_bd {p : Int} (hp : monthOk p = true) : 0 ≤ janOf p ∧ janOf p ≤ p ∧ p ≤ 1199 := by
  have hb : 0 ≤ p ∧ p ≤ 1199 := by simpa [monthOk] using hp
  unfold janOf
  omega

set_option maxHeartbeats 8000000 in
set_option maxRecDepth 100000 in
theorem shRet_any {w0 w : World} {M c g : Nat} {e p o1 o2 o3 o5 o6 : Int} {vl : Value} {os : KLs} {A L E : Value} (h : MSt w0 w M tb #[.pointer (some ⟨c, 0, none⟩), .pointer (some ⟨g, 0, none⟩), .int .i64 e, .int .i64 p, vl, A, L, E, .int .i64 o1, .int .i64 o2, .int .i64 o3, .int .i64 0, .int .i64 o5, .int .i64 o6] os)
    {mb : Option Nat} {r : List Ac} (hc : ChartAt w0 c mb r) {a : Option Addr} {cap : Nat} {J : List Jn} {F : Nat → Prop} (hbk : BookAt w0 g a cap J F) (hl : J.length ≤ 100) (hgood : GoodJ J) (hp : monthOk p = true) (hi : I64 p) {u : Int × Int} (hu : retT r J e p = u) :
    Calls Tryz.prog 100 #[.pointer (some ⟨M, 0, none⟩)] w fun en w' => en = .returned (.int .i64 u.2) ∧ MSt w0 w' M tb #[.pointer (some ⟨c, 0, none⟩), .pointer (some ⟨g, 0, none⟩), .int .i64 e, .int .i64 p, vl, A, L, E, .int .i64 o1, .int .i64 o2, .int .i64 o3, .int .i64 u.1, .int .i64 o5, .int .i64 o6] os := by
  have HJ := Lib.hid (january_is p h.cell hp hi)
  have HH := Lib.hid h
  have hjb := jan_bd hp
  by_cases hj : janOf p = 0
  · have hu' : u = (0, 0) := by rw [← hu]; unfold retT; rw [hj]; rfl
    subst hu'
    rw [hj] at HJ
    clear h hc hbk hgood hp hi hu hj hjb
    go_enter Tryz.func100, Tryz.ntmps100
    go_wp2_with fail
    refine HJ.out.mono ?_
    rintro en w1 ⟨rfl, hb⟩
    have HB := Lib.hid (HH.out.call hb)
    clear hb
    go_wp2_with fail
    go_ret
    exact ⟨rfl, HB.out⟩
  · obtain ⟨U, hU⟩ : ∃ U, incM r J e 0 (janOf p - 1) = U := ⟨_, rfl⟩
    have hu' : u = (U.1.2.2, U.2) := by
      rw [← hu]
      unfold retT
      rw [hU]
      have : (janOf p == 0) = false := by simpa using hj
      rw [this]
      rfl
    subst hu'
    have hj' : (janOf p == 0) = false := by simpa using hj
    have hw : IntKind.i64.wrap (janOf p - 1) = janOf p - 1 := wrap_is (by omega) (by omega)
    have HC : Hid (∀ W, SM w W → Calls Tryz.prog 145 #[.pointer (some ⟨M, 0, none⟩), .pointer (some ⟨M, 11, none⟩), .int .i64 0, .int .i64 (janOf p - 1)] W fun en w' => en = .returned (.int .i64 U.2) ∧ ∃ w1, Below W.heap.size W w1 ∧ w' = w1.setCell ⟨M, 11, none⟩ (.int .i64 U.1.2.2)) := Lib.hid (fun W hb =>
      net_any (k := 11) (HH.out.call hb).cell (by omega) (hc.below (HH.out.call hb).bel) (hbk.below (HH.out.call hb).bel) hl hgood 0 (janOf p - 1) (by decide) (i64_ofB (by omega) (by omega)) hU)
    have HJ2 : Hid (∀ W, SM w W → Calls Tryz.prog 144 #[.pointer (some ⟨M, 0, none⟩)] W fun e w' => e = .returned (.int .i64 (janOf p)) ∧ Below W.heap.size W w') := Lib.hid (fun W hb => january_is p (HH.out.call hb).cell hp hi)
    clear h hc hbk hgood hp hi hu hU
    generalize janOf p = jn at *
    go_enter Tryz.func100, Tryz.ntmps100
    go_wp2_with fail
    refine HJ.out.mono ?_
    rintro en w1 ⟨rfl, hb⟩
    have HS1 : Hid (SM w w1) := Lib.hid hb
    clear hb
    go_wp2_with fail
    go_region_held3 (fun w' => True) (trivial) (first | (go_at_call 144; refine (HJ2.out _ (SM.drew HS1.out)).mono ?_; rintro en w2 ⟨rfl, hb⟩; have HS2 : Hid (SM w w2) := Lib.hid (SM.call (SM.drew HS1.out) hb); clear hb) | (go_at_call 145; refine (HC.out _ HS2.out).mono ?_; rintro en w4 ⟨rfl, w3, hb, rfl⟩; have HS3 : Hid (SM w w3) := Lib.hid (SM.call HS2.out hb); clear hb))
    go_wp2_with fail
    go_ret
    exact ⟨rfl, HH.out.set HS3.out 11 _ (by simp)⟩

set_option maxHeartbeats 8000000 in
set_option maxRecDepth 100000 in
theorem shCur_any {w0 w : World} {M c g : Nat} {e p o1 o2 o3 o4 o5 o6 : Int} {vl : Value} {os : KLs} {A L E : Value} (h : MSt w0 w M tb #[.pointer (some ⟨c, 0, none⟩), .pointer (some ⟨g, 0, none⟩), .int .i64 e, .int .i64 p, vl, A, L, E, .int .i64 o1, .int .i64 o2, .int .i64 o3, .int .i64 o4, .int .i64 o5, .int .i64 o6] os)
    {mb : Option Nat} {r : List Ac} (hc : ChartAt w0 c mb r) {a : Option Addr} {cap : Nat} {J : List Jn} {F : Nat → Prop} (hbk : BookAt w0 g a cap J F) (hl : J.length ≤ 100) (hgood : GoodJ J) (hp : monthOk p = true) (hi : I64 p) {u : Int × Int} (hu : curT r J e p = u) :
    Calls Tryz.prog 101 #[.pointer (some ⟨M, 0, none⟩)] w fun en w' => en = .returned (.int .i64 u.2) ∧ MSt w0 w' M tb #[.pointer (some ⟨c, 0, none⟩), .pointer (some ⟨g, 0, none⟩), .int .i64 e, .int .i64 p, vl, A, L, E, .int .i64 o1, .int .i64 o2, .int .i64 o3, .int .i64 o4, .int .i64 u.1, .int .i64 o6] os := by
  have HH := Lib.hid h
  have hjb := jan_bd hp
  obtain ⟨U, hU⟩ : ∃ U, incM r J e (janOf p) p = U := ⟨_, rfl⟩
  have hu' : u = (U.1.2.2, U.2) := by rw [← hu]; unfold curT; rw [hU]
  subst hu'
  have HC : Hid (∀ W, SM w W → Calls Tryz.prog 145 #[.pointer (some ⟨M, 0, none⟩), .pointer (some ⟨M, 12, none⟩), .int .i64 (janOf p), .int .i64 p] W fun en w' => en = .returned (.int .i64 U.2) ∧ ∃ w1, Below W.heap.size W w1 ∧ w' = w1.setCell ⟨M, 12, none⟩ (.int .i64 U.1.2.2)) := Lib.hid (fun W hb =>
    net_any (k := 12) (HH.out.call hb).cell (by omega) (hc.below (HH.out.call hb).bel) (hbk.below (HH.out.call hb).bel) hl hgood (janOf p) p (i64_ofB (by omega) (by omega)) hi hU)
  have HJ2 : Hid (∀ W, SM w W → Calls Tryz.prog 144 #[.pointer (some ⟨M, 0, none⟩)] W fun e w' => e = .returned (.int .i64 (janOf p)) ∧ Below W.heap.size W w') := Lib.hid (fun W hb => january_is p (HH.out.call hb).cell hp hi)
  have HM := Lib.hid h.cell
  have hcc := blk_cells h.cell
  have hlt := blk_lt h.cell
  have hS : SM w w := Below.refl _ _
  have KS : Hid (∀ W, SM w W → W.cell? ⟨M, 3, none⟩ = some (.int .i64 p)) := Lib.hid (fun W h => SM.at' HM.out h 3 rfl)
  have KT : Hid (∀ W v, SM w W → (W.setCell ⟨M, 12, none⟩ v).cell? ⟨M, 3, none⟩ = some (.int .i64 p)) := Lib.hid (fun W v h => by rw [blk_cells (blk_set (blk_below HM.out h) 12 v)]; simp)
  clear h hc hbk hgood hp hi hu hU
  generalize janOf p = jn at *
  go_enter Tryz.func101, Tryz.ntmps101
  go_wp2_with fail
  go_region_held3 (fun w' => w'.cell? ⟨M, 3, none⟩ = some (.int .i64 p)) (first | with_reducible exact KT.out _ _ HS3.out | with_reducible exact KS.out _ HS2.out | with_reducible exact KS.out _ (SM.drew hS)) (first | (go_at_call 144; refine (HJ2.out _ (SM.drew hS)).mono ?_; rintro en w2 ⟨rfl, hb⟩; have HS2 : Hid (SM w w2) := Lib.hid (SM.call (SM.drew hS) hb); clear hb) | (go_at_call 145; refine (HC.out _ HS2.out).mono ?_; rintro en w4 ⟨rfl, w3, hb, rfl⟩; have HS3 : Hid (SM w w3) := Lib.hid (SM.call HS2.out hb); clear hb))
  go_wp2_with fail
  go_ret
  exact ⟨rfl, HH.out.set HS3.out 12 _ (by simp)⟩
end Go.Proofs.YtfnmlpnncjhnmaaGreat


/- sheet: the maker's last step: what stands in accounts that are none. -/
set_option linter.unusedVariables false
set_option linter.unusedSimpArgs false
namespace Go.Proofs.YtfnmlpnncjhnmaaGreat
open Go.RowKit Go.Maps Go.Deep
variable {tb : Obj}

def outB (r : List Ac) (x : Int × Int) : Bool := (findA r x.1).isNone
def othL (r : List Ac) (l : List (Int × Int)) : List (Int × Int) := (l.filter (outB r)).map negB

set_option maxHeartbeats 8000000 in
set_option maxRecDepth 100000 in
theorem shOther_any {w0 w : World} {M c g : Nat} {e p o1 o2 o3 o4 o5 o6 : Int} {la : Option Addr} {lc : Nat} {l : List (Int × Int)} {A L E : Value} {os : KLs} (h : MSt w0 w M tb #[.pointer (some ⟨c, 0, none⟩), .pointer (some ⟨g, 0, none⟩), .int .i64 e, .int .i64 p, (.slice la l.length lc), A, L, E, .int .i64 o1, .int .i64 o2, .int .i64 o3, .int .i64 o4, .int .i64 o5, .int .i64 o6] os) (hm : ((.slice la l.length lc : Value), l) ∈ os)
    {mb : Option Nat} {r : List Ac} (hc : ChartAt w0 c mb r) (hl : l.length ≤ 800) (hfit : ∀ x ∈ l, fitsB x.2 = true) {u : Int × Int} (hu : addM ((othL r l).map (·.2)) = u) :
    Calls Tryz.prog 102 #[.pointer (some ⟨M, 0, none⟩)] w fun en w' => en = .returned (.int .i64 u.2) ∧ MSt w0 w' M tb #[.pointer (some ⟨c, 0, none⟩), .pointer (some ⟨g, 0, none⟩), .int .i64 e, .int .i64 p, (.slice la l.length lc), A, L, E, .int .i64 o1, .int .i64 o2, .int .i64 o3, .int .i64 o4, .int .i64 o5, .int .i64 u.1] os := by
  have HS := Lib.hid (h.own _ hm).slice'
  have HH := Lib.hid h
  have HU := Lib.hid hu
  have HF := Lib.hid hfit
  have HCH := Lib.hid hc
  have HM := Lib.hid h.cell
  have hcc := blk_cells h.cell
  have hlt := blk_lt h.cell
  clear h hc hfit hu
  obtain ⟨i0, hi, hz0, hz1, hz2⟩ := info_parts infoBal
  go_enter Tryz.func102, Tryz.ntmps102
  go_wp2_with fail
  go_loopw [3, 13] (fun vo vi wr => ∃ (n : Nat) (vx : Value), vx = vo ∧ n ≤ l.length ∧ vi = .int .i64 n ∧ OwnL tBal wr w.heap.size vx ((l.take n).filter (outB r)) ∧ Below w.heap.size w wr) (fun _ vi _ => l.length - (intOf vi).toNat)
  case atStart => exact ⟨0, _, rfl, Nat.zero_le _, rfl, OwnL.nil _ _, Below.refl _ _⟩
  case round =>
    obtain ⟨n, vo, rfl, hn, rfl, ho, hb⟩ := hrel
    have HO := Lib.hid ho
    have HB := Lib.hid hb
    clear ho hb hcc hlt
    by_cases hlt : n < l.length
    · obtain ⟨ad, rfl, _, hadl, hc0, hc1, g0, g1⟩ := bal_at (Sl.keep (fun k hk _ => HB.out.block k hk) HS.out) n hlt
      have HY := Lib.hid (fun h => filter_yes (outB r) hlt h)
      have HN := Lib.hid (fun h => filter_no (outB r) hlt h)
      have hnum : ((l.take n).filter (outB r)).length ≤ 1000 := by
        have := List.length_filter_le (outB r) (l.take n)
        rw [List.length_take] at this
        omega
      generalize l[n] = x at *
      obtain ⟨k, v⟩ := x
      simp only at hc0 hc1 g0 g1
      have G0 := Lib.hid g0
      have G1 := Lib.hid g1
      have HBA := Lib.hid ((Below.refl wr.heap.size wr).alloc (Nat.le_refl _) (.cells #[.int .i64 k, .int .i64 v] 94))
      have HZA := Lib.hid (blk_new wr (.cells #[.int .i64 k, .int .i64 v] 94))
      clear g0 g1
      go_wp2_with fail
      refine abs_world (S := fun wx => Below wr.heap.size wr wx ∧ wx.heap[wr.heap.size]? = some (.cells #[.int .i64 k, .int .i64 v] 94 (0, 0))) ?_ ⟨HBA.out, HZA.out⟩
      clear HBA HZA hadl hc0 hc1
      rintro wx ⟨hba, hza⟩
      have HBA := Lib.hid hba
      have HZA := Lib.hid hza
      have HWX := Lib.hid (belows_then HB.out HB.out.size hba)
      have HMX := Lib.hid (blk_below HM.out HWX.out)
      have hlt1 := blk_lt hza
      have hlt2 := blk_lt HMX.out
      have hS : SM wx wx := Below.refl _ _
      have HC : Hid (∀ W, SM wx W → Calls Tryz.prog 140 #[.pointer (some ⟨c, 0, none⟩), .int .i64 k] W fun en w' => en = .returned (.tuple #[acv (acD r k), .bool (findA r k).isSome]) ∧ Below W.heap.size W w' ∧ SM wx w') := Lib.hid (fun W hb => by
        refine (chget_any ((HCH.out.below HH.out.bel).below (HWX.out.trans (Below.mono (show Below wx.heap.size wx W from hb) HWX.out.size))) k G0.out).mono ?_
        rintro en w' ⟨rfl, hb'⟩
        exact ⟨rfl, hb', SM.call hb hb'⟩)
      have KS : Hid (∀ W, SM wx W → (W.cell? ⟨M, 0, none⟩ = some (.pointer (some ⟨c, 0, none⟩)) ∧ W.cell? ⟨wr.heap.size, 0, none⟩ = some (.int .i64 k))) := Lib.hid (fun W h => ⟨SM.at' HMX.out h 0 rfl, SM.at' HZA.out h 0 rfl⟩)
      have HZ0 : Hid ((wx.alloc (.cells #[.int .i64 0, .int .i64 0, .bool false] 83)).drew.heap[wx.heap.size]? = some (.cells #[.int .i64 0, .int .i64 0, .bool false] 83 (0, 0))) := Lib.hid (blk_new wx _)
      have HZ1 : Hid ((wx.drew.alloc (.cells #[.int .i64 0, .int .i64 0, .bool false] 83)).heap[wx.heap.size]? = some (.cells #[.int .i64 0, .int .i64 0, .bool false] 83 (0, 0))) := Lib.hid (blk_new wx.drew _)
      have HPI : Hid (outB r (k, v) = (findA r k).isNone) := Lib.hid rfl
      clear hba hza
      obtain ⟨ac, hac⟩ : ∃ ac, acD r k = ac := ⟨_, rfl⟩
      obtain ⟨q, hq⟩ : ∃ q, findA r k = q := ⟨_, rfl⟩
      rw [hac, hq] at HC
      rw [hq] at HPI
      clear hac hq
      obtain ⟨b1, b2, b3⟩ := ac
      go_region_held3 (fun w' => w'.cell? ⟨M, 0, none⟩ = some (.pointer (some ⟨c, 0, none⟩)) ∧ w'.cell? ⟨wr.heap.size, 0, none⟩ = some (.int .i64 k)) (first | with_reducible exact KS.out _ (SM.set (SM.set (SM.set HB1.out (Nat.le_refl _) _) (Nat.le_refl _) _) (Nat.le_refl _) _) | with_reducible exact KS.out _ (SM.alloc HB1.out _) | with_reducible exact KS.out _ HB1.out | with_reducible exact KS.out _ (SM.alloc (SM.drew hS) _) | with_reducible exact KS.out _ (SM.drew (SM.alloc hS _)) | with_reducible exact KS.out _ (SM.drew hS)) ((go_at_call 140; refine (HC.out _ (by first | with_reducible exact SM.drew hS | with_reducible exact SM.alloc (SM.drew hS) _ | with_reducible exact SM.drew (SM.alloc hS _))).mono ?_; rintro en w1 ⟨rfl, hb, hsm⟩; have HB1 := Lib.hid hsm; (first | (with_reducible have hZ' := blk_below HZ0.out hb; have hcz := blk_cells hZ'; have hfz := blk_frz hZ'; have hlz := blk_lt hZ'; clear hZ') | (with_reducible have hZ' := blk_below HZ1.out hb; have hcz := blk_cells hZ'; have hfz := blk_frz hZ'; have hlz := blk_lt hZ'; clear hZ') | skip); clear hb hsm))
      · obtain ⟨wz, hwz⟩ : ∃ wz, w1.alloc (.cells #[.int .i64 b1, .int .i64 b2, .bool b3] 83) = wz := ⟨_, rfl⟩
        rw [hwz]
        have hsz : SM wx wz := by rw [← hwz]; exact SM.alloc HB1.out _
        have HSZ := Lib.hid hsz
        have HWZ := Lib.hid (belows_then HWX.out HWX.out.size (show Below wx.heap.size wx wz from hsz))
        have hzx := blk_below HZA.out (show Below wx.heap.size wx wz from hsz)
        have hcx := blk_cells hzx
        have hlx := blk_lt hzx
        have HOZ := Lib.hid ((HO.out.below HBA.out).below (show Below wx.heap.size wx wz from hsz))
        clear hzx hsz hwz KS HC HZ0 HZ1 hS hlt1 hlt2
        cases q with
        | some ac =>
          have HP2 : Hid (outB r (k, v) = false) := Lib.hid HPI.out
          simp only [Option.isSome_some]
          go_wp2_with fail
          go_roundw
          case rel => exact ⟨n + 1, _, rfl, by omega, by go_num, by rw [HN.out HP2.out]; exact HOZ.out, HWZ.out⟩
          case measure => simp [intOf]; omega
        | none =>
          have HP2 : Hid (outB r (k, v) = true) := Lib.hid HPI.out
          simp only [Option.isSome_none]
          have HOA := Lib.hid (HOZ.out.alloc (.cells #[.int .i64 k, .int .i64 v] 94))
          have HBB := Lib.hid (HWZ.out.alloc HWZ.out.size (.cells #[.int .i64 k, .int .i64 v] 94))
          have HSL : Hid (Sl tBal (wz.alloc (.cells #[.int .i64 k, .int .i64 v] 94)) (fun kk => some kk ≠ vo.ownBlock ∧ kk < (wz.alloc (.cells #[.int .i64 k, .int .i64 v] 94)).heap.size) (some ⟨wz.heap.size, 0, none⟩) [(k, v)]) :=
            Lib.hid (sl_one2 tBal (x := (k, v)) rfl (blk_new wz _) ⟨fun e => by have := (HOZ.out.lt _ e.symm).2; omega, by simp⟩ (bal_mk (k, v) G0.out G1.out))
          have h63 : ((l.take n).filter (outB r)).length + [((k, v) : Int × Int)].length ≤ maxLen := by simp only [List.length_cons, List.length_nil]; unfold maxLen; omega
          have hby : (((l.take n).filter (outB r)).length + [((k, v) : Int × Int)].length) * 16 ≤ 140737488355328 := by simp only [List.length_cons, List.length_nil]; omega
          go_wp2_with (at_builtin; refine wp_app (T := tBal) rfl _ _ 32 rfl i0 (.agg #[.int .i64 0, .int .i64 0]) 16 Tryz.underlying32 hi hz0 hz1 hz2 rfl (by decide) bal_one w.heap.size vo ((l.take n).filter (outB r)) rfl HOA.out ⟨wz.heap.size, 0, none⟩ 1 [(k, v)] rfl HSL.out h63 hby HBB.out.size ?_; intro v3 w3 hown hg hnil hat; have HO3 := Lib.hid hown; have HB3 := Lib.hid (Below.grown HBB.out hg HBB.out.size (fun k e => (HOA.out.lt k e).1)); clear hown hg hnil hat)
          go_roundw
          case rel => exact ⟨n + 1, _, rfl, by omega, by go_num, by rw [HY.out HP2.out]; exact HO3.out, HB3.out⟩
          case measure => simp [intOf]; omega
      · obtain ⟨wz, hwz⟩ : ∃ wz, ((w1.setCell ⟨wx.heap.size, 0, none⟩ (.int .i64 b1)).setCell ⟨wx.heap.size, 1, none⟩ (.int .i64 b2)).setCell ⟨wx.heap.size, 2, none⟩ (.bool b3) = wz := ⟨_, rfl⟩
        rw [hwz]
        have hsz : SM wx wz := by rw [← hwz]; exact SM.set (SM.set (SM.set HB1.out (Nat.le_refl _) _) (Nat.le_refl _) _) (Nat.le_refl _) _
        have HSZ := Lib.hid hsz
        have HWZ := Lib.hid (belows_then HWX.out HWX.out.size (show Below wx.heap.size wx wz from hsz))
        have hzx := blk_below HZA.out (show Below wx.heap.size wx wz from hsz)
        have hcx := blk_cells hzx
        have hlx := blk_lt hzx
        have HOZ := Lib.hid ((HO.out.below HBA.out).below (show Below wx.heap.size wx wz from hsz))
        clear hzx hsz hwz KS HC HZ0 HZ1 hS hlt1 hlt2
        cases q with
        | some ac =>
          have HP2 : Hid (outB r (k, v) = false) := Lib.hid HPI.out
          simp only [Option.isSome_some]
          go_wp2_with fail
          go_roundw
          case rel => exact ⟨n + 1, _, rfl, by omega, by go_num, by rw [HN.out HP2.out]; exact HOZ.out, HWZ.out⟩
          case measure => simp [intOf]; omega
        | none =>
          have HP2 : Hid (outB r (k, v) = true) := Lib.hid HPI.out
          simp only [Option.isSome_none]
          have HOA := Lib.hid (HOZ.out.alloc (.cells #[.int .i64 k, .int .i64 v] 94))
          have HBB := Lib.hid (HWZ.out.alloc HWZ.out.size (.cells #[.int .i64 k, .int .i64 v] 94))
          have HSL : Hid (Sl tBal (wz.alloc (.cells #[.int .i64 k, .int .i64 v] 94)) (fun kk => some kk ≠ vo.ownBlock ∧ kk < (wz.alloc (.cells #[.int .i64 k, .int .i64 v] 94)).heap.size) (some ⟨wz.heap.size, 0, none⟩) [(k, v)]) :=
            Lib.hid (sl_one2 tBal (x := (k, v)) rfl (blk_new wz _) ⟨fun e => by have := (HOZ.out.lt _ e.symm).2; omega, by simp⟩ (bal_mk (k, v) G0.out G1.out))
          have h63 : ((l.take n).filter (outB r)).length + [((k, v) : Int × Int)].length ≤ maxLen := by simp only [List.length_cons, List.length_nil]; unfold maxLen; omega
          have hby : (((l.take n).filter (outB r)).length + [((k, v) : Int × Int)].length) * 16 ≤ 140737488355328 := by simp only [List.length_cons, List.length_nil]; omega
          go_wp2_with (at_builtin; refine wp_app (T := tBal) rfl _ _ 32 rfl i0 (.agg #[.int .i64 0, .int .i64 0]) 16 Tryz.underlying32 hi hz0 hz1 hz2 rfl (by decide) bal_one w.heap.size vo ((l.take n).filter (outB r)) rfl HOA.out ⟨wz.heap.size, 0, none⟩ 1 [(k, v)] rfl HSL.out h63 hby HBB.out.size ?_; intro v3 w3 hown hg hnil hat; have HO3 := Lib.hid hown; have HB3 := Lib.hid (Below.grown HBB.out hg HBB.out.size (fun k e => (HOA.out.lt k e).1)); clear hown hg hnil hat)
          go_roundw
          case rel => exact ⟨n + 1, _, rfl, by omega, by go_num, by rw [HY.out HP2.out]; exact HO3.out, HB3.out⟩
          case measure => simp [intOf]; omega
    · have HL : Hid ((l.take n).filter (outB r) = l.filter (outB r)) := Lib.hid (by rw [take_all hn hlt])
      have hown := HO.out
      rw [HL.out] at hown
      obtain ⟨X, hX⟩ : ∃ X, l.filter (outB r) = X := ⟨_, rfl⟩
      have hfl : X.length ≤ 800 := by rw [← hX]; exact Nat.le_trans (List.length_filter_le _ _) hl
      have HFX : Hid (∀ x ∈ X, fitsB x.2 = true) := Lib.hid (fun x hx => by rw [← hX] at hx; exact HF.out x (List.mem_filter.1 hx).1)
      have hu := HU.out
      unfold othL at hu
      rw [hX] at hown hu
      have HUX := Lib.hid hu
      obtain ⟨oa, oc, rfl, _, _, hos⟩ := hown.slice
      have HSr : Hid (SM w wr) := Lib.hid HB.out
      have HT : Hid (∀ W, SM w W → ∀ (a : Option Addr) (cp : Nat), Sl tBal W (fun _ => True) a (X.map negB) → Calls Tryz.prog 142 #[.pointer (some ⟨M, 13, none⟩), .slice a (X.map negB).length cp] W fun en w' => en = .returned (.int .i64 u.2) ∧ ∃ w1, Below W.heap.size W w1 ∧ w' = w1.setCell ⟨M, 13, none⟩ (.int .i64 u.1)) := Lib.hid (fun W hb a cp hs =>
        total_any (k := 13) (HH.out.call hb).cell (by simp) (X.map negB) a cp hs (by rw [List.length_map]; omega) HUX.out)
      have HTU := Lib.hid (shTurned_any X oa oc wr.drew (Sl.keep (w := wr) (w' := wr.drew) (fun k hk _ => rfl) hos) (by omega) HFX.out)
      clear hX hown hu hos HL HO HUX
      obtain ⟨Y, hY⟩ : ∃ Y, X.map negB = Y := ⟨_, rfl⟩
      rw [hY] at HT HTU
      clear hY
      go_wp2_with fail
      go_region_held3 (fun w' => True) (trivial) (first | (go_at_call 143; refine HTU.out.mono ?_; rintro en w2 ⟨v2, rfl, ho, hb⟩; obtain ⟨ta, tc, rfl, _, _, hts⟩ := ho.slice; have HTS := Lib.hid hts; have HS2 : Hid (SM w w2) := Lib.hid (SM.call (SM.drew HSr.out) hb); clear ho hb hts) | (go_at_call 142; refine (HT.out _ HS2.out ta tc HTS.out).mono ?_; rintro en w4 ⟨rfl, w3, hb, rfl⟩; have HS3 : Hid (SM w w3) := Lib.hid (SM.call HS2.out hb); clear hb))
      go_wp2_with fail
      go_ret
      exact ⟨rfl, HH.out.set HS3.out 13 _ (by simp)⟩
end Go.Proofs.YtfnmlpnncjhnmaaGreat
