/- income: no chart; plain: what Make tells is what the document tells. -/
import Derived.Test.YtgggpaacagbmcaaGreatX24GroupInner
import Derived.Test.YtgggpaacagbmcaaGreatX21GroupInner
import Derived.Test.YtgggpaacagbmcaaGreatX23GroupInner
set_option linter.unusedVariables false
set_option linter.unusedSimpArgs false
namespace Go.Proofs.YtgggpaacagbmcaaGreat
open Go.RowKit Go.Maps Go.Deep

theorem incI_is (r : List Ac) (l : List (Int × Int)) : incI r l = pickS r l 4 true := by
  unfold incI pickS
  rw [kindP_is r 4 (by decide)]
  rfl
theorem incO_is (r : List Ac) (l : List (Int × Int)) : incO r l = pickS r l 5 false := by
  unfold incO pickS
  rw [kindP_is r 5 (by decide)]
  have : turnB false = id := by funext x; rfl
  rw [this, List.map_id]
theorem net_more {r : List Ac} {l : List (Int × Int)} (hf : ∀ x ∈ l, fitsB x.2 = true) : incR r l = if netF r l then ((netA r l, netB r l, netA r l - netB r l), 0) else ((0, 0, 0), 2) := by
  have fI : ((incI r l).map (·.2)).all fitsB = true := by
    rw [List.all_eq_true]
    intro y hy
    obtain ⟨x, hx, rfl⟩ := List.mem_map.1 hy
    unfold incI at hx
    obtain ⟨z, hz, rfl⟩ := List.mem_map.1 hx
    have := hf z (List.mem_filter.1 hz).1
    unfold fitsB negB at *
    simp at *
    omega
  have fO : ((incO r l).map (·.2)).all fitsB = true := by
    rw [List.all_eq_true]
    intro y hy
    obtain ⟨x, hx, rfl⟩ := List.mem_map.1 hy
    exact hf x (List.mem_filter.1 hx).1
  have eA : addM ((incI r l).map (·.2)) = fitS (netA r l) := by unfold addM; rw [fI, incI_is]; rfl
  have eB : addM ((incO r l).map (·.2)) = fitS (netB r l) := by unfold addM; rw [fO, incO_is]; rfl
  unfold incR
  simp only [eA, eB]
  unfold netF
  generalize netA r l = a
  generalize netB r l = b
  unfold fitS
  cases ha : fitsB a
  · simp
  · cases hb : fitsB b
    · simp
    · have hnb : fitsB (-b) = true := by unfold fitsB at *; simp at *; omega
      have eN : addM [a, -b] = fitS (a - b) := by
        unfold addM
        simp only [List.all_cons, List.all_nil, ha, hnb, Bool.and_true, if_true, sumI]
        rw [show a + (-b + 0) = a - b from by omega]
      simp only [if_true, eN]
      unfold fitS
      cases hc : fitsB (a - b)
      · simp
      · simp

end Go.Proofs.YtgggpaacagbmcaaGreat


/- sheet.Roll: what was retained, what a year came to, and both together. -/
set_option linter.unusedVariables false
set_option linter.unusedSimpArgs false
namespace Go.Proofs.YtgggpaacagbmcaaGreat
open Go.RowKit Go.Maps Go.Deep

def yearB (y : Int) : Bool := decide (2000 ≤ y) && decide (y ≤ 2099)
/-- what Roll tells -/
def rollT (r : List Ac) (J : List Jn) (e y : Int) : (Int × Int × Int) × Int :=
  if !yearB y then ((0, 0, 0), 1) else
  if (shT r J e (12 * (y - 2000) + 11)).2 != 0 then ((0, 0, 0), (shT r J e (12 * (y - 2000) + 11)).2) else
  if (addM [(shT r J e (12 * (y - 2000) + 11)).1.2.2.2.1, (shT r J e (12 * (y - 2000) + 11)).1.2.2.2.2.1]).2 != 0 then ((0, 0, 0), (addM [(shT r J e (12 * (y - 2000) + 11)).1.2.2.2.1, (shT r J e (12 * (y - 2000) + 11)).1.2.2.2.2.1]).2) else
  (((shT r J e (12 * (y - 2000) + 11)).1.2.2.2.1, (shT r J e (12 * (y - 2000) + 11)).1.2.2.2.2.1, (addM [(shT r J e (12 * (y - 2000) + 11)).1.2.2.2.1, (shT r J e (12 * (y - 2000) + 11)).1.2.2.2.2.1]).1), 0)
theorem shT_fit (r : List Ac) (J : List Jn) (e p : Int) : fitsB (shT r J e p).1.2.2.2.1 = true ∧ fitsB (shT r J e p).1.2.2.2.2.1 = true := by
  have hinc : ∀ f t, fitsB (incM r J e f t).1.2.2 = true := by
    intro f t
    unfold incM
    split
    · rfl
    · unfold incR
      simp only
      split
      · rfl
      · split
        · rfl
        · split
          · rfl
          · exact addM_fit _
  unfold shT
  split
  · exact ⟨rfl, rfl⟩
  · constructor
    · show fitsB (retT r J e p).1 = true
      unfold retT
      split
      · rfl
      · exact hinc _ _
    · exact hinc _ _
theorem i64_fit {n : Int} (h : fitsB n = true) : I64 n := by
  have : -1000000000000000 ≤ n ∧ n ≤ 1000000000000000 := by simpa [fitsB] using h
  exact i64_ofB (by omega) (by omega)

end Go.Proofs.YtgggpaacagbmcaaGreat


/- Plain: what is retained goes on from year to year. -/
set_option linter.unusedVariables false
set_option linter.unusedSimpArgs false
namespace Go.Proofs.YtgggpaacagbmcaaGreat
open Go.RowKit Go.Maps Go.Deep

theorem shT_ok {r : List Ac} {J : List Jn} {e p : Int} (h : (shT r J e p).2 = 0) : shE r J e p = 0 ∧ (shT r J e p).1 = ((owT r (balT J e 0 p).1).1, (oeT r (balT J e 0 p).1).1, (heT r (balT J e 0 p).1).1, (retT r J e p).1, (curT r J e p).1, (otT r (balT J e 0 p).1).1) := by
  unfold shT at h ⊢
  by_cases h0 : shE r J e p = 0
  · rw [h0]
    exact ⟨rfl, rfl⟩
  · have h1 : (shE r J e p != 0) = true := by simpa using h0
    rw [h1] at h
    exact absurd h h0
theorem if_ne {n m : Int} (h : (if n != 0 then n else m) = 0) : n = 0 ∧ m = 0 := by
  by_cases h0 : n = 0
  · subst h0
    simpa using h
  · have h1 : (n != 0) = true := by simpa using h0
    rw [h1] at h
    exact absurd h h0
theorem shE_ok {r : List Ac} {J : List Jn} {e p : Int} (h : shE r J e p = 0) : (balT J e 0 p).2 = 0 ∧ (owT r (balT J e 0 p).1).2 = 0 ∧ (oeT r (balT J e 0 p).1).2 = 0 ∧ (heT r (balT J e 0 p).1).2 = 0 ∧ (retT r J e p).2 = 0 ∧ (curT r J e p).2 = 0 ∧ (otT r (balT J e 0 p).1).2 = 0 := by
  unfold shE at h
  obtain ⟨h1, h⟩ := if_ne h
  obtain ⟨h2, h⟩ := if_ne h
  obtain ⟨h3, h⟩ := if_ne h
  obtain ⟨h4, h⟩ := if_ne h
  obtain ⟨h5, h⟩ := if_ne h
  obtain ⟨h6, h⟩ := if_ne h
  exact ⟨h1, h2, h3, h4, h5, h6, h⟩
theorem roll_cases (r : List Ac) (J : List Jn) (e y : Int) : (rollT r J e y).2 ≠ 0 ∧ (rollT r J e y).1 = (0, 0, 0) ∨
    yearB y = true ∧ (shT r J e (12 * (y - 2000) + 11)).2 = 0 ∧ (rollT r J e y).2 = 0 ∧ (rollT r J e y).1 = ((shT r J e (12 * (y - 2000) + 11)).1.2.2.2.1, (shT r J e (12 * (y - 2000) + 11)).1.2.2.2.2.1, (shT r J e (12 * (y - 2000) + 11)).1.2.2.2.1 + (shT r J e (12 * (y - 2000) + 11)).1.2.2.2.2.1) := by
  unfold rollT
  cases hy : yearB y
  · left
    simp
  · simp only [Bool.not_true, Bool.false_eq_true, if_false]
    obtain ⟨S, se, hS⟩ : ∃ S se, shT r J e (12 * (y - 2000) + 11) = (S, se) := ⟨_, _, rfl⟩
    rw [hS]
    simp only
    by_cases h1 : se = 0
    · subst h1
      obtain ⟨n, en, hN⟩ : ∃ n en, addM [S.2.2.2.1, S.2.2.2.2.1] = (n, en) := ⟨_, _, rfl⟩
      rw [hN]
      simp only
      by_cases h2 : en = 0
      · subst h2
        right
        have := addM_ok (l := [S.2.2.2.1, S.2.2.2.2.1]) (by rw [hN])
        rw [hN] at this
        simp only [sumI] at this
        refine ⟨by first | trivial | rfl, by first | trivial | rfl, by first | trivial | rfl, ?_⟩
        show (S.2.2.2.1, S.2.2.2.2.1, n) = _
        rw [show n = S.2.2.2.1 + S.2.2.2.2.1 from by omega]
      · left
        have h3 : (en != 0) = true := by simpa using h2
        rw [h3]
        exact ⟨h2, rfl⟩
    · left
      have h3 : (se != 0) = true := by simpa using h1
      rw [h3]
      exact ⟨h1, rfl⟩
theorem roll_bad {r : List Ac} {J : List Jn} {e y : Int} (h : y < 2000 ∨ 2099 < y ∨ e < 1 ∨ 9 < e) : rollT r J e y = ((0, 0, 0), 1) := by
  unfold rollT
  cases hy : yearB y
  · rfl
  · have hb : 2000 ≤ y ∧ y ≤ 2099 := by simpa [yearB] using hy
    have he : e < 1 ∨ 9 < e := by omega
    have hbt : balT J e 0 (12 * (y - 2000) + 11) = ([], 1) := by
      unfold balT
      have : rightB e 0 (12 * (y - 2000) + 11) = false := by
        unfold rightB entB
        have : (decide (1 ≤ e) && decide (e ≤ 9)) = false := by simp; omega
        rw [this]
        rfl
      rw [this]
      rfl
    have hE : shE r J e (12 * (y - 2000) + 11) = 1 := by unfold shE; rw [hbt]; rfl
    have hS : shT r J e (12 * (y - 2000) + 11) = ((0, 0, 0, 0, 0, 0), 1) := by unfold shT; rw [hE]; rfl
    rw [hS]
    rfl
theorem lines_none (J : List Jn) (e : Int) : linesOf J e 0 (-1) = [] := by
  unfold linesOf
  have : J.filter (cnt e 0 (-1)) = [] := by
    rw [List.filter_eq_nil_iff]
    intro j _
    unfold cnt
    simp
    intro _ _ h
    omega
  rw [this]
  rfl
theorem roll_next {r : List Ac} {J : List Jn} (hV : ValJ J) {e y : Int} (h1 : (rollT r J e y).2 = 0) (h2 : (rollT r J e (y + 1)).2 = 0) : (rollT r J e (y + 1)).1.1 = (rollT r J e y).1.2.2 := by
  rcases roll_cases r J e y with ⟨h, _⟩ | ⟨hy, hs, _, hr⟩
  · exact absurd h1 h
  rcases roll_cases r J e (y + 1) with ⟨h, _⟩ | ⟨hy', hs', _, hr'⟩
  · exact absurd h2 h
  rw [hr, hr']
  have hb : 2000 ≤ y ∧ y ≤ 2099 := by simpa [yearB] using hy
  obtain ⟨P, hP⟩ : ∃ P, 12 * (y - 2000) + 11 = P := ⟨_, rfl⟩
  have hP' : 12 * (y + 1 - 2000) + 11 = P + 12 := by omega
  rw [hP] at hs ⊢
  rw [hP'] at hs' ⊢
  obtain ⟨e1, v1⟩ := shT_ok hs
  obtain ⟨e2, v2⟩ := shT_ok hs'
  obtain ⟨_, _, _, _, r1, c1, _⟩ := shE_ok e1
  obtain ⟨_, _, _, _, r2, _, _⟩ := shE_ok e2
  rw [v1, v2]
  show (retT r J e (P + 12)).1 = (retT r J e P).1 + (curT r J e P).1
  have j1 : janOf P = P - 11 := by unfold janOf; omega
  have j2 : janOf (P + 12) = P + 1 := by unfold janOf; omega
  have n2 : (retT r J e (P + 12)) = ((incM r J e 0 P).1.2.2, (incM r J e 0 P).2) := by
    unfold retT
    rw [j2]
    have : ((P + 1 : Int) == 0) = false := by simp; omega
    rw [this, show P + 1 - 1 = P from by omega]
    rfl
  rw [n2] at r2 ⊢
  unfold curT at c1 ⊢
  rw [j1] at c1 ⊢
  simp only at r2 c1 ⊢
  rw [net_sum hV r2, net_sum hV c1, lines_split _ e 0 (P - 11) P (by omega) (by omega), lines_split _ e 0 (P - 11) P (by omega) (by omega)]
  by_cases hz : P - 11 = 0
  · have : (retT r J e P) = (0, 0) := by
      unfold retT
      rw [j1, hz]
      rfl
    rw [this, hz, show (0 : Int) - 1 = -1 from rfl, lines_none]
    simp only [sumQ]
    omega
  · have n1 : (retT r J e P) = ((incM r J e 0 (P - 11 - 1)).1.2.2, (incM r J e 0 (P - 11 - 1)).2) := by
      unfold retT
      rw [j1]
      have : ((P - 11 : Int) == 0) = false := by simpa using hz
      rw [this]
      rfl
    rw [n1] at r1 ⊢
    simp only at r1 ⊢
    rw [net_sum hV r1]
    omega
end Go.Proofs.YtgggpaacagbmcaaGreat


/- Plain: the document's sheet is the program's; both sides of a sheet are the same. -/
set_option linter.unusedVariables false
set_option linter.unusedSimpArgs false
namespace Go.Proofs.YtgggpaacagbmcaaGreat
open Go.RowKit Go.Maps Go.Deep

/-- what some months came to, as the document makes it -/
def refN (r : List Ac) (J : List Jn) (e f t : Int) : Int × Int :=
  if (balT J e f t).2 != 0 then (0, (balT J e f t).2) else if netF r (balT J e f t).1 then (netA r (balT J e f t).1 - netB r (balT J e f t).1, 0) else (0, 2)
theorem refN_is (r : List Ac) (J : List Jn) (e f t : Int) : refN r J e f t = ((incM r J e f t).1.2.2, (incM r J e f t).2) := by
  unfold refN incM
  split
  · rfl
  · rw [net_more balT_fit]
    split <;> rfl
theorem amt_neg {l : List (Int × Int)} (h : ∀ x ∈ l, fitsB x.2 = true) : ∀ x ∈ l.map negB, fitsB x.2 = true := by
  intro x hx
  obtain ⟨y, hy, rfl⟩ := List.mem_map.1 hx
  have := h y hy
  unfold negB fitsB at *
  simp at *
  omega
theorem addM_of {l : List (Int × Int)} (h : ∀ x ∈ l, fitsB x.2 = true) : addM (l.map (·.2)) = if fitsB (sumI (l.map (·.2))) then (sumI (l.map (·.2)), 0) else (0, 2) := by
  have ha : (l.map (·.2)).all fitsB = true := by
    rw [List.all_eq_true]
    intro y hy
    obtain ⟨x, hx, rfl⟩ := List.mem_map.1 hy
    exact h x hx
  unfold addM fitS
  rw [ha]
  rfl
theorem mem_fit {l : List (Int × Int)} (h : ∀ x ∈ l, fitsB x.2 = true) (p : Int × Int → Bool) : ∀ x ∈ l.filter p, fitsB x.2 = true := fun x hx => h x (List.mem_filter.1 hx).1
theorem pickS_f (r : List Ac) (l : List (Int × Int)) (k : Int) (hk : k ≠ 0) : pickS r l k false = l.filter (pickB r [k]) := by
  unfold pickS
  rw [kindP_is r k hk]
  have : turnB false = id := by funext x; rfl
  rw [this, List.map_id]
theorem pickS_t (r : List Ac) (l : List (Int × Int)) (k : Int) (hk : k ≠ 0) : pickS r l k true = (l.filter (pickB r [k])).map negB := by
  unfold pickS
  rw [kindP_is r k hk]
  rfl
theorem find_mem {r : List Ac} {c : Int} {a : Ac} (h : findA r c = some a) : a ∈ r := by
  unfold findA at h
  exact List.mem_of_find?_eq_some h
theorem pickS_0 {r : List Ac} (hr : GoodA r) (l : List (Int × Int)) : pickS r l 0 true = othL r l := by
  have : kindP r 0 = outB r := by
    funext x
    unfold kindP outB kindA
    cases h : findA r x.1 with
    | none => rfl
    | some a =>
      have h1 := hr.ok a (find_mem h)
      unfold rowB at h1
      simp at h1
      simp
      omega
  unfold pickS othL
  rw [this]
  rfl
/-- the six sums as the document has them -/
def sixD (r : List Ac) (J : List Jn) (e p : Int) : List Int :=
  [sumI ((pickS r (balT J e 0 p).1 1 false).map (·.2)), sumI ((pickS r (balT J e 0 p).1 2 true).map (·.2)), sumI ((pickS r (balT J e 0 p).1 3 true).map (·.2)), (if janOf p - 1 < 0 then (0, 0) else refN r J e 0 (janOf p - 1)).1, (refN r J e (janOf p) p).1, sumI ((pickS r (balT J e 0 p).1 0 true).map (·.2))]
/-- the document's sheet -/
def shD (r : List Ac) (J : List Jn) (e p : Int) : List Int × Int :=
  if (balT J e 0 p).2 != 0 then ([], (balT J e 0 p).2) else if (if janOf p - 1 < 0 then (0, 0) else refN r J e 0 (janOf p - 1)).2 != 0 then ([], (if janOf p - 1 < 0 then (0, 0) else refN r J e 0 (janOf p - 1)).2) else
  if (refN r J e (janOf p) p).2 != 0 then ([], (refN r J e (janOf p) p).2) else if (sixD r J e p).all fitsB then (sixD r J e p, 0) else ([], 2)
theorem incM_err (r : List Ac) (J : List Jn) (e f t : Int) : (incM r J e f t).2 = 0 ∨ (incM r J e f t).2 = (balT J e f t).2 ∨ (incM r J e f t).2 = 2 := by
  have := refN_is r J e f t
  have h2 : (refN r J e f t).2 = (incM r J e f t).2 := by rw [this]
  rw [← h2]
  unfold refN
  split
  · exact .inr (.inl rfl)
  · split
    · exact .inl rfl
    · exact .inr (.inr rfl)
theorem incM_fits (r : List Ac) (J : List Jn) (e f t : Int) : fitsB (incM r J e f t).1.2.2 = true := by
  have := refN_is r J e f t
  have h2 : (refN r J e f t).1 = (incM r J e f t).1.2.2 := by rw [this]
  rw [← h2]
  unfold refN
  split
  · rfl
  · split
    · rename_i h
      unfold netF at h
      simp only [Bool.and_eq_true] at h
      exact h.2
    · rfl
theorem bal_two {J : List Jn} {e f t : Int} (h : rightB e f t = true) : (balT J e f t).2 = 0 ∨ (balT J e f t).2 = 2 := by
  unfold balT
  rw [h]
  split
  · split
    · exact .inl rfl
    · exact .inr rfl
  · rename_i h; exact absurd rfl h
theorem right_month {e p : Int} (h : rightB e 0 p = true) : (1 ≤ e ∧ e ≤ 9) ∧ 0 ≤ p ∧ p ≤ 1199 := by
  unfold rightB entB monthOk at h
  simp at h
  omega
theorem right_mk {e f t : Int} (h1 : 1 ≤ e) (h2 : e ≤ 9) (h3 : 0 ≤ f) (h4 : f ≤ t) (h5 : t ≤ 1199) : rightB e f t = true := by
  unfold rightB entB monthOk
  simp
  omega
theorem six_ite {a b c d e f n : Int} (ha : a = 0 ∨ a = 2) (hb : b = 0 ∨ b = 2) (hc : c = 0 ∨ c = 2) (hd : d = 0 ∨ d = 2) (he : e = 0 ∨ e = 2) (hf : f = 0 ∨ f = 2) (hn : n = if a = 0 ∧ b = 0 ∧ c = 0 ∧ d = 0 ∧ e = 0 ∧ f = 0 then 0 else 2) :
    (if a != 0 then a else if b != 0 then b else if c != 0 then c else if d != 0 then d else if e != 0 then e else f) = n := by
  subst hn
  rcases ha with rfl | rfl <;> rcases hb with rfl | rfl <;> rcases hc with rfl | rfl <;> rcases hd with rfl | rfl <;> rcases he with rfl | rfl <;> rcases hf with rfl | rfl <;> rfl
theorem two_of (b : Bool) : (if b then (0 : Int) else 2) = 0 ∨ (if b then (0 : Int) else 2) = 2 := by cases b <;> simp

/-- the document's sheet is the program's -/
theorem shD_is {r : List Ac} (hr : GoodA r) (J : List Jn) (e p : Int) : (shD r J e p).2 = (shT r J e p).2 ∧ ((shT r J e p).2 = 0 → (shD r J e p).1 = [(shT r J e p).1.1, (shT r J e p).1.2.1, (shT r J e p).1.2.2.1, (shT r J e p).1.2.2.2.1, (shT r J e p).1.2.2.2.2.1, (shT r J e p).1.2.2.2.2.2]) ∧ ((shT r J e p).2 ≠ 0 → (shD r J e p).1 = []) := by
  have hsT : (shT r J e p).2 = shE r J e p := by
    unfold shT
    split
    · rfl
    · rename_i h
      simp at h
      exact h.symm
  by_cases h0 : (balT J e 0 p).2 = 0
  · have hfit := balT_fit (J := J) (e := e) (f := 0) (t := p)
    have hrt : rightB e 0 p = true := by
      cases h : rightB e 0 p with
      | true => rfl
      | false => unfold balT at h0; rw [h] at h0; cases h0
    obtain ⟨⟨he1, he2⟩, hp0, hp1⟩ := right_month hrt
    have hj0 : 0 ≤ janOf p := by unfold janOf; omega
    have hjp : janOf p ≤ p := by unfold janOf; omega
    have e1 : (if janOf p - 1 < 0 then (0, 0) else refN r J e 0 (janOf p - 1)) = retT r J e p := by
      unfold retT
      by_cases hj : janOf p = 0
      · rw [hj]; rfl
      · have h1 : ¬ janOf p - 1 < 0 := by omega
        have h2 : (janOf p == 0) = false := by simpa using hj
        rw [if_neg h1, h2, refN_is]
        rfl
    have e2 : refN r J e (janOf p) p = curT r J e p := refN_is _ _ _ _ _
    have hret : (retT r J e p).2 = 0 ∨ (retT r J e p).2 = 2 := by
      unfold retT
      split
      · exact .inl rfl
      · rename_i h
        simp at h
        rcases incM_err r J e 0 (janOf p - 1) with h1 | h1 | h1
        · exact .inl h1
        · show (incM r J e 0 (janOf p - 1)).2 = 0 ∨ (incM r J e 0 (janOf p - 1)).2 = 2
          rw [h1]
          exact bal_two (right_mk he1 he2 (by omega) (by omega) (by omega))
        · exact .inr h1
    have hcur : (curT r J e p).2 = 0 ∨ (curT r J e p).2 = 2 := by
      unfold curT
      rcases incM_err r J e (janOf p) p with h1 | h1 | h1
      · exact .inl h1
      · show (incM r J e (janOf p) p).2 = 0 ∨ (incM r J e (janOf p) p).2 = 2
        rw [h1]
        exact bal_two (right_mk he1 he2 hj0 hjp (by omega))
      · exact .inr h1
    have hfret : fitsB (retT r J e p).1 = true := by
      unfold retT
      split
      · rfl
      · exact incM_fits _ _ _ _ _
    have hfcur : fitsB (curT r J e p).1 = true := incM_fits _ _ _ _ _
    have eo : owT r (balT J e 0 p).1 = if fitsB (sumI ((pickS r (balT J e 0 p).1 1 false).map (·.2))) then (sumI ((pickS r (balT J e 0 p).1 1 false).map (·.2)), 0) else (0, 2) := by
      unfold owT
      rw [pickS_f r _ 1 (by decide), addM_of (mem_fit hfit _)]
    have ed : oeT r (balT J e 0 p).1 = if fitsB (sumI ((pickS r (balT J e 0 p).1 2 true).map (·.2))) then (sumI ((pickS r (balT J e 0 p).1 2 true).map (·.2)), 0) else (0, 2) := by
      unfold oeT
      rw [pickS_t r _ 2 (by decide), addM_of (amt_neg (mem_fit hfit _))]
    have eh : heT r (balT J e 0 p).1 = if fitsB (sumI ((pickS r (balT J e 0 p).1 3 true).map (·.2))) then (sumI ((pickS r (balT J e 0 p).1 3 true).map (·.2)), 0) else (0, 2) := by
      unfold heT
      rw [pickS_t r _ 3 (by decide), addM_of (amt_neg (mem_fit hfit _))]
    have et : otT r (balT J e 0 p).1 = if fitsB (sumI ((pickS r (balT J e 0 p).1 0 true).map (·.2))) then (sumI ((pickS r (balT J e 0 p).1 0 true).map (·.2)), 0) else (0, 2) := by
      unfold otT
      rw [pickS_0 hr, show othL r (balT J e 0 p).1 = ((balT J e 0 p).1.filter (outB r)).map negB from rfl, addM_of (amt_neg (mem_fit hfit _))]
    rw [hsT]
    unfold shD shT sixD shE
    rw [e1, e2, h0, eo, ed, eh, et]
    generalize retT r J e p = R at *
    generalize curT r J e p = C at *
    generalize sumI ((pickS r (balT J e 0 p).1 1 false).map (·.2)) = s1 at *
    generalize sumI ((pickS r (balT J e 0 p).1 2 true).map (·.2)) = s2 at *
    generalize sumI ((pickS r (balT J e 0 p).1 3 true).map (·.2)) = s3 at *
    generalize sumI ((pickS r (balT J e 0 p).1 0 true).map (·.2)) = s0 at *
    obtain ⟨R1, R2⟩ := R
    obtain ⟨C1, C2⟩ := C
    simp only at hret hcur hfret hfcur
    simp only [List.all_cons, List.all_nil, hfret, hfcur, Bool.and_true, Bool.true_and]
    cases g1 : fitsB s1 <;> cases g2 : fitsB s2 <;> cases g3 : fitsB s3 <;> cases g0 : fitsB s0 <;> rcases hret with rfl | rfl <;> rcases hcur with rfl | rfl <;> simp
  · have h1 : ((balT J e 0 p).2 != 0) = true := by simpa using h0
    have hE : shE r J e p = (balT J e 0 p).2 := by
      unfold shE
      rw [h1]
      rfl
    have hD : shD r J e p = ([], (balT J e 0 p).2) := by
      unfold shD
      rw [h1]
      rfl
    rw [hsT, hE, hD]
    exact ⟨rfl, fun h => absurd h h0, fun _ => rfl⟩
end Go.Proofs.YtgggpaacagbmcaaGreat
