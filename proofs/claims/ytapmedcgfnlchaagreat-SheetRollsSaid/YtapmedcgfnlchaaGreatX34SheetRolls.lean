/- sheet: the maker's steps: what is retained, what this year came to. -/
import Derived.Test.YtapmedcgfnlchaaGreatX32SheetRolls
set_option linter.unusedVariables false
set_option linter.unusedSimpArgs false
namespace Go.Proofs.YtapmedcgfnlchaaGreat
open Go.RowKit Go.Maps Go.Deep
variable {tb : Obj}

/-- what the years ahead came to; what this year did -/
def retT (r : List Ac) (J : List Jn) (e p : Int) : Int × Int := if janOf p == 0 then (0, 0) else ((incM r J e 0 (janOf p - 1)).1.2.2, (incM r J e 0 (janOf p - 1)).2)
def curT (r : List Ac) (J : List Jn) (e p : Int) : Int × Int := ((incM r J e (janOf p) p).1.2.2, (incM r J e (janOf p) p).2)
theorem jan_bd {p : Int} (hp : monthOk p = true) : 0 ≤ janOf p ∧ janOf p ≤ p ∧ p ≤ 1199 := by
  have hb : 0 ≤ p ∧ p ≤ 1199 := by simpa [monthOk] using hp
  unfold janOf
  omega

set_option maxHeartbeats 8000000 in
set_option maxRecDepth 100000 in
theorem shRet_any {w0 w : World} {M c g : Nat} {e p o1 o2 o3 o5 o6 : Int} {vl : Value} {l : List (Int × Int)} {A L E : Value} (h : MSt w0 w M tb #[.pointer (some ⟨c, 0, none⟩), .pointer (some ⟨g, 0, none⟩), .int .i64 e, .int .i64 p, vl, A, L, E, .int .i64 o1, .int .i64 o2, .int .i64 o3, .int .i64 0, .int .i64 o5, .int .i64 o6] vl l)
    {mb : Option Nat} {r : List Ac} (hc : ChartAt w0 c mb r) {a : Option Addr} {cap : Nat} {J : List Jn} {F : Nat → Prop} (hbk : BookAt w0 g a cap J F) (hl : J.length ≤ 100) (hgood : GoodJ J) (hp : monthOk p = true) (hi : I64 p) {u : Int × Int} (hu : retT r J e p = u) :
    Calls Tryz.prog 41 #[.pointer (some ⟨M, 0, none⟩)] w fun en w' => en = .returned (.int .i64 u.2) ∧ MSt w0 w' M tb #[.pointer (some ⟨c, 0, none⟩), .pointer (some ⟨g, 0, none⟩), .int .i64 e, .int .i64 p, vl, A, L, E, .int .i64 o1, .int .i64 o2, .int .i64 o3, .int .i64 u.1, .int .i64 o5, .int .i64 o6] vl l := by
  have HJ := Lib.hid (january_is p h.cell hp hi)
  have HH := Lib.hid h
  have hjb := jan_bd hp
  by_cases hj : janOf p = 0
  · have hu' : u = (0, 0) := by rw [← hu]; unfold retT; rw [hj]; rfl
    subst hu'
    rw [hj] at HJ
    clear h hc hbk hgood hp hi hu hj hjb
    go_enter Tryz.func41, Tryz.ntmps41
    go_wp2_with fail
    refine HJ.out.mono ?_
    rintro en w1 ⟨rfl, hb⟩
    have HB := Lib.hid (HH.out.call hb)
    clear hb
    go_wp2_with fail
    go_ret
    exact ⟨rfl, HB.out⟩
  · obtain ⟨U, hU⟩ : ∃ U, incM r J e 0 (janOf p - 1) = U := ⟨_, rfl⟩
    have hu' : u = (U.1.2.2, U.2) := by
      rw [← hu]
      unfold retT
      rw [hU]
      have : (janOf p == 0) = false := by simpa using hj
      rw [this]
      rfl
    subst hu'
    have hj' : (janOf p == 0) = false := by simpa using hj
    have hw : IntKind.i64.wrap (janOf p - 1) = janOf p - 1 := wrap_is (by omega) (by omega)
    have HC : Hid (∀ W, SM w W → Calls Tryz.prog 70 #[.pointer (some ⟨M, 0, none⟩), .pointer (some ⟨M, 11, none⟩), .int .i64 0, .int .i64 (janOf p - 1)] W fun en w' => en = .returned (.int .i64 U.2) ∧ ∃ w1, Below W.heap.size W w1 ∧ w' = w1.setCell ⟨M, 11, none⟩ (.int .i64 U.1.2.2)) := Lib.hid (fun W hb =>
      net_any (k := 11) (HH.out.call hb).cell (by omega) (hc.below (HH.out.call hb).bel) (hbk.below (HH.out.call hb).bel) hl hgood 0 (janOf p - 1) (by decide) (i64_ofB (by omega) (by omega)) hU)
    have HJ2 : Hid (∀ W, SM w W → Calls Tryz.prog 69 #[.pointer (some ⟨M, 0, none⟩)] W fun e w' => e = .returned (.int .i64 (janOf p)) ∧ Below W.heap.size W w') := Lib.hid (fun W hb => january_is p (HH.out.call hb).cell hp hi)
    clear h hc hbk hgood hp hi hu hU
    generalize janOf p = jn at *
    go_enter Tryz.func41, Tryz.ntmps41
    go_wp2_with fail
    refine HJ.out.mono ?_
    rintro en w1 ⟨rfl, hb⟩
    have HS1 : Hid (SM w w1) := Lib.hid hb
    clear hb
    go_wp2_with fail
    go_region_held3 (fun w' => True) (trivial) (first | (go_at_call 69; refine (HJ2.out _ (SM.drew HS1.out)).mono ?_; rintro en w2 ⟨rfl, hb⟩; have HS2 : Hid (SM w w2) := Lib.hid (SM.call (SM.drew HS1.out) hb); clear hb) | (go_at_call 70; refine (HC.out _ HS2.out).mono ?_; rintro en w4 ⟨rfl, w3, hb, rfl⟩; have HS3 : Hid (SM w w3) := Lib.hid (SM.call HS2.out hb); clear hb))
    go_wp2_with fail
    go_ret
    exact ⟨rfl, HH.out.set HS3.out 11 _ (by simp)⟩

set_option maxHeartbeats 8000000 in
set_option maxRecDepth 100000 in
theorem shCur_any {w0 w : World} {M c g : Nat} {e p o1 o2 o3 o4 o5 o6 : Int} {vl : Value} {l : List (Int × Int)} {A L E : Value} (h : MSt w0 w M tb #[.pointer (some ⟨c, 0, none⟩), .pointer (some ⟨g, 0, none⟩), .int .i64 e, .int .i64 p, vl, A, L, E, .int .i64 o1, .int .i64 o2, .int .i64 o3, .int .i64 o4, .int .i64 o5, .int .i64 o6] vl l)
    {mb : Option Nat} {r : List Ac} (hc : ChartAt w0 c mb r) {a : Option Addr} {cap : Nat} {J : List Jn} {F : Nat → Prop} (hbk : BookAt w0 g a cap J F) (hl : J.length ≤ 100) (hgood : GoodJ J) (hp : monthOk p = true) (hi : I64 p) {u : Int × Int} (hu : curT r J e p = u) :
    Calls Tryz.prog 42 #[.pointer (some ⟨M, 0, none⟩)] w fun en w' => en = .returned (.int .i64 u.2) ∧ MSt w0 w' M tb #[.pointer (some ⟨c, 0, none⟩), .pointer (some ⟨g, 0, none⟩), .int .i64 e, .int .i64 p, vl, A, L, E, .int .i64 o1, .int .i64 o2, .int .i64 o3, .int .i64 o4, .int .i64 u.1, .int .i64 o6] vl l := by
  have HH := Lib.hid h
  have hjb := jan_bd hp
  obtain ⟨U, hU⟩ : ∃ U, incM r J e (janOf p) p = U := ⟨_, rfl⟩
  have hu' : u = (U.1.2.2, U.2) := by rw [← hu]; unfold curT; rw [hU]
  subst hu'
  have HC : Hid (∀ W, SM w W → Calls Tryz.prog 70 #[.pointer (some ⟨M, 0, none⟩), .pointer (some ⟨M, 12, none⟩), .int .i64 (janOf p), .int .i64 p] W fun en w' => en = .returned (.int .i64 U.2) ∧ ∃ w1, Below W.heap.size W w1 ∧ w' = w1.setCell ⟨M, 12, none⟩ (.int .i64 U.1.2.2)) := Lib.hid (fun W hb =>
    net_any (k := 12) (HH.out.call hb).cell (by omega) (hc.below (HH.out.call hb).bel) (hbk.below (HH.out.call hb).bel) hl hgood (janOf p) p (i64_ofB (by omega) (by omega)) hi hU)
  have HJ2 : Hid (∀ W, SM w W → Calls Tryz.prog 69 #[.pointer (some ⟨M, 0, none⟩)] W fun e w' => e = .returned (.int .i64 (janOf p)) ∧ Below W.heap.size W w') := Lib.hid (fun W hb => january_is p (HH.out.call hb).cell hp hi)
  have HM := Lib.hid h.cell
  have hcc := blk_cells h.cell
  have hlt := blk_lt h.cell
  have hS : SM w w := Below.refl _ _
  have KS : Hid (∀ W, SM w W → W.cell? ⟨M, 3, none⟩ = some (.int .i64 p)) := Lib.hid (fun W h => SM.at' HM.out h 3 rfl)
  have KT : Hid (∀ W v, SM w W → (W.setCell ⟨M, 12, none⟩ v).cell? ⟨M, 3, none⟩ = some (.int .i64 p)) := Lib.hid (fun W v h => by rw [blk_cells (blk_set (blk_below HM.out h) 12 v)]; simp)
  clear h hc hbk hgood hp hi hu hU
  generalize janOf p = jn at *
  go_enter Tryz.func42, Tryz.ntmps42
  go_wp2_with fail
  go_region_held3 (fun w' => w'.cell? ⟨M, 3, none⟩ = some (.int .i64 p)) (first | with_reducible exact KT.out _ _ HS3.out | with_reducible exact KS.out _ HS2.out | with_reducible exact KS.out _ (SM.drew hS)) (first | (go_at_call 69; refine (HJ2.out _ (SM.drew hS)).mono ?_; rintro en w2 ⟨rfl, hb⟩; have HS2 : Hid (SM w w2) := Lib.hid (SM.call (SM.drew hS) hb); clear hb) | (go_at_call 70; refine (HC.out _ HS2.out).mono ?_; rintro en w4 ⟨rfl, w3, hb, rfl⟩; have HS3 : Hid (SM w w3) := Lib.hid (SM.call HS2.out hb); clear hb))
  go_wp2_with fail
  go_ret
  exact ⟨rfl, HH.out.set HS3.out 12 _ (by simp)⟩
end Go.Proofs.YtapmedcgfnlchaaGreat
