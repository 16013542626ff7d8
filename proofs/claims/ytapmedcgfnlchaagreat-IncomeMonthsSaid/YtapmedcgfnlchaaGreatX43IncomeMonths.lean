/- sheet.Roll: what was retained, what a year came to, and both together. -/
import Derived.Test.YtapmedcgfnlchaaGreatX33IncomeMonths
import Derived.Test.YtapmedcgfnlchaaGreatX35IncomeMonths
set_option linter.unusedVariables false
set_option linter.unusedSimpArgs false
namespace Go.Proofs.YtapmedcgfnlchaaGreat
open Go.RowKit Go.Maps Go.Deep

def yearB (y : Int) : Bool := decide (2000 ≤ y) && decide (y ≤ 2099)
theorem tmOf_no (y : Int) (h : yearB y = false) (w : World) : Calls Tryz.prog 49 #[.int .i64 y, .int .i64 1] w fun e w' => e = .returned (.tuple #[.int .i64 0, .int .i64 1]) ∧ w' = w := by
  have hcs : y < 2000 ∨ 2000 ≤ y ∧ 2100 ≤ y := by
    unfold yearB at h
    simp at h
    omega
  rcases hcs with h1 | ⟨h1, h2⟩
  all_goals
    clear h
    go_enter Tryz.func49, Tryz.ntmps49
    go_wp2_with fail
    go_ret2
    exact ⟨rfl, rfl⟩
theorem tmOf_yes (y : Int) (h : yearB y = true) (w : World) : Calls Tryz.prog 49 #[.int .i64 y, .int .i64 1] w fun e w' => e = .returned (.tuple #[.int .i64 (12 * (y - 2000)), .int .i64 0]) ∧ w' = w := by
  have hb : 2000 ≤ y ∧ y ≤ 2099 := by simpa [yearB] using h
  obtain ⟨h1, h2⟩ := hb
  have h3 : y < 2100 := by omega
  have w1 : IntKind.i64.wrap (y - 2000) = y - 2000 := wrap_is (by omega) (by omega)
  have w2 : IntKind.i64.wrap (12 * (y - 2000)) = 12 * (y - 2000) := wrap_is (by omega) (by omega)
  have w3 : IntKind.i64.wrap (12 * (y - 2000) + 1) = 12 * (y - 2000) + 1 := wrap_is (by omega) (by omega)
  have w4 : IntKind.i64.wrap (12 * (y - 2000) + 1 - 1) = 12 * (y - 2000) := by rw [wrap_is (by omega) (by omega)]; omega
  clear h h2
  go_enter Tryz.func49, Tryz.ntmps49
  go_wp2_with fail
  go_ret2
  exact ⟨by first | rfl | simp, rfl⟩

/-- what Roll tells -/
def rollT (r : List Ac) (J : List Jn) (e y : Int) : (Int × Int × Int) × Int :=
  if !yearB y then ((0, 0, 0), 1) else
  if (shT r J e (12 * (y - 2000) + 11)).2 != 0 then ((0, 0, 0), (shT r J e (12 * (y - 2000) + 11)).2) else
  if (addM [(shT r J e (12 * (y - 2000) + 11)).1.2.2.2.1, (shT r J e (12 * (y - 2000) + 11)).1.2.2.2.2.1]).2 != 0 then ((0, 0, 0), (addM [(shT r J e (12 * (y - 2000) + 11)).1.2.2.2.1, (shT r J e (12 * (y - 2000) + 11)).1.2.2.2.2.1]).2) else
  (((shT r J e (12 * (y - 2000) + 11)).1.2.2.2.1, (shT r J e (12 * (y - 2000) + 11)).1.2.2.2.2.1, (addM [(shT r J e (12 * (y - 2000) + 11)).1.2.2.2.1, (shT r J e (12 * (y - 2000) + 11)).1.2.2.2.2.1]).1), 0)
theorem shT_fit (r : List Ac) (J : List Jn) (e p : Int) : fitsB (shT r J e p).1.2.2.2.1 = true ∧ fitsB (shT r J e p).1.2.2.2.2.1 = true := by
  have hinc : ∀ f t, fitsB (incM r J e f t).1.2.2 = true := by
    intro f t
    unfold incM
    split
    · rfl
    · unfold incR
      simp only
      split
      · rfl
      · split
        · rfl
        · split
          · rfl
          · exact addM_fit _
  unfold shT
  split
  · exact ⟨rfl, rfl⟩
  · constructor
    · show fitsB (retT r J e p).1 = true
      unfold retT
      split
      · rfl
      · exact hinc _ _
    · exact hinc _ _
theorem i64_fit {n : Int} (h : fitsB n = true) : I64 n := by
  have : -1000000000000000 ≤ n ∧ n ≤ 1000000000000000 := by simpa [fitsB] using h
  exact i64_ofB (by omega) (by omega)

set_option maxHeartbeats 8000000 in
set_option maxRecDepth 100000 in
theorem shRoll_any {w : World} {c g : Nat} {mb : Option Nat} {r : List Ac} {a : Option Addr} {cap : Nat} {J : List Jn} {F : Nat → Prop} (hc : ChartAt w c mb r) (hbk : BookAt w g a cap J F) (hl : J.length ≤ 100) (hgood : GoodJ J) (e y : Int) {t : (Int × Int × Int) × Int} (ht : rollT r J e y = t) :
    Calls Tryz.prog 21 #[.pointer (some ⟨c, 0, none⟩), .pointer (some ⟨g, 0, none⟩), .int .i64 e, .int .i64 y] w fun en w' => en = .returned (.tuple #[.int .i64 t.1.1, .int .i64 t.1.2.1, .int .i64 t.1.2.2, .int .i64 t.2]) ∧ Below w.heap.size w w' := by
  cases hy : yearB y
  · have ht' : t = ((0, 0, 0), 1) := by rw [← ht]; unfold rollT; rw [hy]; rfl
    subst ht'
    have HY := Lib.hid hy
    clear hc hbk hgood ht hy
    go_enter Tryz.func21, Tryz.ntmps21
    go_wp2_with fail
    refine (tmOf_no y HY.out w).mono ?_
    rintro en w1 ⟨rfl, rfl⟩
    go_wp2_with fail
    refine bodyPost_ret (v := .tuple #[.int .i64 0, .int .i64 0, .int .i64 0, .int .i64 1]) (by simp [results, Tryz.results21, go_sem]) rfl ?_
    exact ⟨rfl, Below.refl _ _⟩
  · have hb : 2000 ≤ y ∧ y ≤ 2099 := by simpa [yearB] using hy
    have HY := Lib.hid hy
    have hw : IntKind.i64.wrap (12 * (y - 2000) + 11) = 12 * (y - 2000) + 11 := wrap_is (by omega) (by omega)
    obtain ⟨S, hS⟩ : ∃ S, shT r J e (12 * (y - 2000) + 11) = S := ⟨_, rfl⟩
    have HM := Lib.hid (shMake_any hc hbk hl hgood e (12 * (y - 2000) + 11) (i64_ofB (by omega) (by omega)) hS)
    have hft := shT_fit r J e (12 * (y - 2000) + 11)
    rw [hS] at hft
    unfold rollT at ht
    rw [hy, hS] at ht
    have HTT := Lib.hid ht
    have HFT := Lib.hid hft
    clear hc hbk hgood ht hy hS hft hb
    generalize ((balT J e 0 (12 * (y - 2000) + 11)).1.filter (pickB r [1])).length = n1 at *
    obtain ⟨⟨s1, s2, s3, s4, s5, s6⟩, se⟩ := S
    simp only at HM HFT HTT
    go_enter Tryz.func21, Tryz.ntmps21
    go_wp2_with fail
    refine (tmOf_yes y HY.out w).mono ?_
    rintro en w1 ⟨rfl, rfl⟩
    go_wp2_with fail
    refine HM.out.mono ?_
    rintro en w2 ⟨a1, m1, c1, a2, m2, c2, a3, m3, c3, rfl, hm2, hm3, hb⟩
    clear hm2 hm3
    have HB := Lib.hid (hb.alloc hb.size (.cells #[.slice a1 m1 c1, .slice a2 m2 c2, .slice a3 m3 c3, .int .i64 s1, .int .i64 s2, .int .i64 s3, .int .i64 s4, .int .i64 s5, .int .i64 s6] 49))
    have HZ := Lib.hid (blk_new w2 (.cells #[.slice a1 m1 c1, .slice a2 m2 c2, .slice a3 m3 c3, .int .i64 s1, .int .i64 s2, .int .i64 s3, .int .i64 s4, .int .i64 s5, .int .i64 s6] 49))
    clear hb
    by_cases hse : se = 0
    · subst hse
      obtain ⟨al, ae, hal⟩ : ∃ al ae, addM [s4, s5] = (al, ae) := ⟨_, _, rfl⟩
      have hbb := HB.out.alloc HB.out.size (.cells #[.int .i64 s4, .int .i64 s5] 3)
      have HBB := Lib.hid hbb
      have HZZ := Lib.hid (blk_alloc HZ.out (.cells #[.int .i64 s4, .int .i64 s5] 3))
      have HA := Lib.hid (madd2 s4 s5 (w2.heap.size + 1) ((w2.alloc (.cells #[.slice a1 m1 c1, .slice a2 m2 c2, .slice a3 m3 c3, .int .i64 s1, .int .i64 s2, .int .i64 s3, .int .i64 s4, .int .i64 s5, .int .i64 s6] 49)).alloc (.cells #[.int .i64 s4, .int .i64 s5] 3)) (by have := blk_new (w2.alloc (.cells #[.slice a1 m1 c1, .slice a2 m2 c2, .slice a3 m3 c3, .int .i64 s1, .int .i64 s2, .int .i64 s3, .int .i64 s4, .int .i64 s5, .int .i64 s6] 49)) (.cells #[.int .i64 s4, .int .i64 s5] 3); simpa using this) (i64_fit HFT.out.1) (i64_fit HFT.out.2) hal)
      have htt := HTT.out
      rw [hal] at htt
      have HT2 := Lib.hid htt
      clear hal htt HTT hbb HB
      go_wp2_with fail
      refine HA.out.mono ?_
      rintro en w3 ⟨rfl, hb⟩
      have HB3 := Lib.hid (belows_then HBB.out HBB.out.size hb)
      have hz := blk_cells (blk_below HZZ.out hb)
      have hzl := blk_lt (blk_below HZZ.out hb)
      clear hb
      by_cases hae : ae = 0
      · subst hae
        have ht' : t = ((s4, s5, al), 0) := by rw [← HT2.out]; rfl
        subst ht'
        clear HT2
        go_wp2_with fail
        go_quiet (fail)
        go_wp2_with fail
        refine bodyPost_ret (v := .tuple #[.int .i64 s4, .int .i64 s5, .int .i64 al, .int .i64 0]) (by simp [results, Tryz.results21, go_sem]) rfl ?_
        exact ⟨rfl, below_drewN HB3.out _⟩
      · have hae' : (ae != 0) = true := by simpa using hae
        have ht' : t = ((0, 0, 0), ae) := by rw [← HT2.out]; simp [hae]
        subst ht'
        clear HT2 hae
        go_wp2_with fail
        refine bodyPost_ret (v := .tuple #[.int .i64 0, .int .i64 0, .int .i64 0, .int .i64 ae]) (by simp [results, Tryz.results21, go_sem]) rfl ?_
        exact ⟨rfl, HB3.out⟩
    · have hse' : (se != 0) = true := by simpa using hse
      have ht' : t = ((0, 0, 0), se) := by rw [← HTT.out]; simp [hse]
      subst ht'
      clear HTT hse
      go_wp2_with fail
      refine bodyPost_ret (v := .tuple #[.int .i64 0, .int .i64 0, .int .i64 0, .int .i64 se]) (by simp [results, Tryz.results21, go_sem]) rfl ?_
      exact ⟨rfl, HB.out⟩
end Go.Proofs.YtapmedcgfnlchaaGreat


/- Plain: what is retained goes on from year to year. -/
set_option linter.unusedVariables false
set_option linter.unusedSimpArgs false
namespace Go.Proofs.YtapmedcgfnlchaaGreat
open Go.RowKit Go.Maps Go.Deep

theorem shT_ok {r : List Ac} {J : List Jn} {e p : Int} (h : (shT r J e p).2 = 0) : shE r J e p = 0 ∧ (shT r J e p).1 = ((owT r (balT J e 0 p).1).1, (oeT r (balT J e 0 p).1).1, (heT r (balT J e 0 p).1).1, (retT r J e p).1, (curT r J e p).1, (otT r (balT J e 0 p).1).1) := by
  unfold shT at h ⊢
  by_cases h0 : shE r J e p = 0
  · rw [h0]
    exact ⟨rfl, rfl⟩
  · have h1 : (shE r J e p != 0) = true := by simpa using h0
    rw [h1] at h
    exact absurd h h0
theorem if_ne {n m : Int} (h : (if n != 0 then n else m) = 0) : n = 0 ∧ m = 0 := by
  by_cases h0 : n = 0
  · subst h0
    simpa using h
  · have h1 : (n != 0) = true := by simpa using h0
    rw [h1] at h
    exact absurd h h0
theorem shE_ok {r : List Ac} {J : List Jn} {e p : Int} (h : shE r J e p = 0) : (balT J e 0 p).2 = 0 ∧ (owT r (balT J e 0 p).1).2 = 0 ∧ (oeT r (balT J e 0 p).1).2 = 0 ∧ (heT r (balT J e 0 p).1).2 = 0 ∧ (retT r J e p).2 = 0 ∧ (curT r J e p).2 = 0 ∧ (otT r (balT J e 0 p).1).2 = 0 := by
  unfold shE at h
  obtain ⟨h1, h⟩ := if_ne h
  obtain ⟨h2, h⟩ := if_ne h
  obtain ⟨h3, h⟩ := if_ne h
  obtain ⟨h4, h⟩ := if_ne h
  obtain ⟨h5, h⟩ := if_ne h
  obtain ⟨h6, h⟩ := if_ne h
  exact ⟨h1, h2, h3, h4, h5, h6, h⟩
theorem roll_cases (r : List Ac) (J : List Jn) (e y : Int) : (rollT r J e y).2 ≠ 0 ∧ (rollT r J e y).1 = (0, 0, 0) ∨
    yearB y = true ∧ (shT r J e (12 * (y - 2000) + 11)).2 = 0 ∧ (rollT r J e y).2 = 0 ∧ (rollT r J e y).1 = ((shT r J e (12 * (y - 2000) + 11)).1.2.2.2.1, (shT r J e (12 * (y - 2000) + 11)).1.2.2.2.2.1, (shT r J e (12 * (y - 2000) + 11)).1.2.2.2.1 + (shT r J e (12 * (y - 2000) + 11)).1.2.2.2.2.1) := by
  unfold rollT
  cases hy : yearB y
  · left
    simp
  · simp only [Bool.not_true, Bool.false_eq_true, if_false]
    obtain ⟨S, se, hS⟩ : ∃ S se, shT r J e (12 * (y - 2000) + 11) = (S, se) := ⟨_, _, rfl⟩
    rw [hS]
    simp only
    by_cases h1 : se = 0
    · subst h1
      obtain ⟨n, en, hN⟩ : ∃ n en, addM [S.2.2.2.1, S.2.2.2.2.1] = (n, en) := ⟨_, _, rfl⟩
      rw [hN]
      simp only
      by_cases h2 : en = 0
      · subst h2
        right
        have := addM_ok (l := [S.2.2.2.1, S.2.2.2.2.1]) (by rw [hN])
        rw [hN] at this
        simp only [sumI] at this
        refine ⟨by first | trivial | rfl, by first | trivial | rfl, by first | trivial | rfl, ?_⟩
        show (S.2.2.2.1, S.2.2.2.2.1, n) = _
        rw [show n = S.2.2.2.1 + S.2.2.2.2.1 from by omega]
      · left
        have h3 : (en != 0) = true := by simpa using h2
        rw [h3]
        exact ⟨h2, rfl⟩
    · left
      have h3 : (se != 0) = true := by simpa using h1
      rw [h3]
      exact ⟨h1, rfl⟩
theorem roll_bad {r : List Ac} {J : List Jn} {e y : Int} (h : y < 2000 ∨ 2099 < y ∨ e < 1 ∨ 9 < e) : rollT r J e y = ((0, 0, 0), 1) := by
  unfold rollT
  cases hy : yearB y
  · rfl
  · have hb : 2000 ≤ y ∧ y ≤ 2099 := by simpa [yearB] using hy
    have he : e < 1 ∨ 9 < e := by omega
    have hbt : balT J e 0 (12 * (y - 2000) + 11) = ([], 1) := by
      unfold balT
      have : rightB e 0 (12 * (y - 2000) + 11) = false := by
        unfold rightB entB
        have : (decide (1 ≤ e) && decide (e ≤ 9)) = false := by simp; omega
        rw [this]
        rfl
      rw [this]
      rfl
    have hE : shE r J e (12 * (y - 2000) + 11) = 1 := by unfold shE; rw [hbt]; rfl
    have hS : shT r J e (12 * (y - 2000) + 11) = ((0, 0, 0, 0, 0, 0), 1) := by unfold shT; rw [hE]; rfl
    rw [hS]
    rfl
theorem lines_none (J : List Jn) (e : Int) : linesOf J e 0 (-1) = [] := by
  unfold linesOf
  have : J.filter (cnt e 0 (-1)) = [] := by
    rw [List.filter_eq_nil_iff]
    intro j _
    unfold cnt
    simp
    intro _ _ h
    omega
  rw [this]
  rfl
theorem roll_next {r : List Ac} {J : List Jn} (hV : ValJ J) {e y : Int} (h1 : (rollT r J e y).2 = 0) (h2 : (rollT r J e (y + 1)).2 = 0) : (rollT r J e (y + 1)).1.1 = (rollT r J e y).1.2.2 := by
  rcases roll_cases r J e y with ⟨h, _⟩ | ⟨hy, hs, _, hr⟩
  · exact absurd h1 h
  rcases roll_cases r J e (y + 1) with ⟨h, _⟩ | ⟨hy', hs', _, hr'⟩
  · exact absurd h2 h
  rw [hr, hr']
  have hb : 2000 ≤ y ∧ y ≤ 2099 := by simpa [yearB] using hy
  obtain ⟨P, hP⟩ : ∃ P, 12 * (y - 2000) + 11 = P := ⟨_, rfl⟩
  have hP' : 12 * (y + 1 - 2000) + 11 = P + 12 := by omega
  rw [hP] at hs ⊢
  rw [hP'] at hs' ⊢
  obtain ⟨e1, v1⟩ := shT_ok hs
  obtain ⟨e2, v2⟩ := shT_ok hs'
  obtain ⟨_, _, _, _, r1, c1, _⟩ := shE_ok e1
  obtain ⟨_, _, _, _, r2, _, _⟩ := shE_ok e2
  rw [v1, v2]
  show (retT r J e (P + 12)).1 = (retT r J e P).1 + (curT r J e P).1
  have j1 : janOf P = P - 11 := by unfold janOf; omega
  have j2 : janOf (P + 12) = P + 1 := by unfold janOf; omega
  have n2 : (retT r J e (P + 12)) = ((incM r J e 0 P).1.2.2, (incM r J e 0 P).2) := by
    unfold retT
    rw [j2]
    have : ((P + 1 : Int) == 0) = false := by simp; omega
    rw [this, show P + 1 - 1 = P from by omega]
    rfl
  rw [n2] at r2 ⊢
  unfold curT at c1 ⊢
  rw [j1] at c1 ⊢
  simp only at r2 c1 ⊢
  rw [net_sum hV r2, net_sum hV c1, lines_split _ e 0 (P - 11) P (by omega) (by omega), lines_split _ e 0 (P - 11) P (by omega) (by omega)]
  by_cases hz : P - 11 = 0
  · have : (retT r J e P) = (0, 0) := by
      unfold retT
      rw [j1, hz]
      rfl
    rw [this, hz, show (0 : Int) - 1 = -1 from rfl, lines_none]
    simp only [sumQ]
    omega
  · have n1 : (retT r J e P) = ((incM r J e 0 (P - 11 - 1)).1.2.2, (incM r J e 0 (P - 11 - 1)).2) := by
      unfold retT
      rw [j1]
      have : ((P - 11 : Int) == 0) = false := by simpa using hz
      rw [this]
      rfl
    rw [n1] at r1 ⊢
    simp only at r1 ⊢
    rw [net_sum hV r1]
    omega
end Go.Proofs.YtapmedcgfnlchaaGreat
