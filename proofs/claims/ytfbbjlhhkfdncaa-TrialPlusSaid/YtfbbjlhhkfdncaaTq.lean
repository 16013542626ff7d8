/- Plain: what TrialPlus asks for. -/
import Derived.Test.YtfbbjlhhkfdncaaTp
set_option linter.unusedVariables false
set_option linter.unusedSimpArgs false
namespace Go.Proofs.Ytfbbjlhhkfdncaa
open Go.RowKit Go.Maps

def smallB (x : Int × Int) : Bool := decide (-1099511627776 ≤ x.2) && decide (x.2 ≤ 1099511627776)
theorem sumI_bd : ∀ (l : List Int), (∀ v ∈ l, -1099511627776 ≤ v ∧ v ≤ 1099511627776) → -(1099511627776 * (l.length : Int)) ≤ sumI l ∧ sumI l ≤ 1099511627776 * (l.length : Int)
  | [], _ => by simp [sumI]
  | v :: r, h => by
    have ih := sumI_bd r (fun y hy => h y (List.mem_cons_of_mem _ hy))
    have hv := h v (List.mem_cons_self ..)
    simp only [sumI, List.length_cons]
    omega
theorem grp_small {z : List (Int × Int)} (h : z.all smallB = true) (k : Int) : ∀ v ∈ grpOf z k, -1099511627776 ≤ v ∧ v ≤ 1099511627776 := by
  intro v hv
  unfold grpOf at hv
  obtain ⟨x, hx, rfl⟩ := List.mem_map.1 hv
  have := List.all_eq_true.1 h x (List.mem_filter.1 hx).1
  simpa [smallB] using this
theorem grp_fits {z : List (Int × Int)} (h : z.all smallB = true) (hl : z.length ≤ 100) (k : Int) : (grpOf z k).all fitsB = true ∧ fitsB (sumI (grpOf z k)) = true := by
  have h1 := grp_small h k
  have h2 := sumI_bd _ h1
  have h3 := grpOf_len z k
  refine ⟨?_, ?_⟩
  · rw [List.all_eq_true]
    intro v hv
    have := h1 v hv
    simp [fitsB]
    omega
  · simp [fitsB]
    omega
theorem sumI_perm {a b : List Int} (h : a.Perm b) : sumI a = sumI b := by
  induction h with
  | nil => rfl
  | cons x _ ih => simp only [sumI, ih]
  | swap x y l => simp only [sumI]; omega
  | trans _ _ h1 h2 => exact h1.trans h2
theorem grp_swap (x y : List (Int × Int)) (k : Int) : sumI (grpOf (x ++ y) k) = sumI (grpOf (y ++ x) k) := by
  rw [grpOf_app, grpOf_app, sumI_app, sumI_app]; omega
/-- the list of both together -/
theorem plus_both {x y : List (Int × Int)} (h : (x ++ y).all smallB = true) (hl : (x ++ y).length ≤ 100) :
    ∃ R, plusT (x ++ y) = (R, 0) ∧ plusT (y ++ x) = (R, 0) ∧ R.Pairwise (fun a b => a.1 < b.1) ∧ ∀ u, u ∈ R ↔ sumI (grpOf (x ++ y) u.1) = u.2 ∧ u.2 ≠ 0 := by
  have h' : (y ++ x).all smallB = true := by
    rw [List.all_append, Bool.and_comm, ← List.all_append]; exact h
  have hl' : (y ++ x).length ≤ 100 := by rw [List.length_append, Nat.add_comm, ← List.length_append]; exact hl
  obtain ⟨p1, p2, p3⟩ := plusT_ok (grp_fits h hl)
  obtain ⟨q1, q2, q3⟩ := plusT_ok (grp_fits h' hl')
  have e : (plusT (y ++ x)).1 = (plusT (x ++ y)).1 := rise_ext q2 p2 (fun u => by rw [p3, q3, grp_swap x y])
  exact ⟨(plusT (x ++ y)).1, Prod.ext rfl p1, Prod.ext e q1, p2, p3⟩

/-- the law's own sums -/
def sumS (l : List (Int × Int)) : List (Int × Int) := l.foldl (fun s x => sAdd s x.1 x.2) []
theorem sumS_snoc (l : List (Int × Int)) (x : Int × Int) : sumS (l ++ [x]) = sAdd (sumS l) x.1 x.2 := by
  unfold sumS
  rw [List.foldl_append]
  rfl
theorem sumS_at : ∀ (n : Nat) (z : List (Int × Int)), z.length = n → n ≤ 100 → z.all smallB = true → ∀ k, at0 (sumS z) k = sumI (grpOf z k) := by
  intro n
  induction n with
  | zero =>
    intro z hl _ _ k
    have := List.length_eq_zero_iff.1 hl
    subst this
    rfl
  | succ n ih =>
    intro z hl hn hz k
    obtain ⟨r, x, rfl⟩ : ∃ r x, z = r ++ [x] := ⟨z.dropLast, z.getLast (by intro e; rw [e] at hl; simp at hl), (List.dropLast_concat_getLast _).symm⟩
    have hr : r.length = n := by simpa using hl
    rw [List.all_append, Bool.and_eq_true] at hz
    have h1 := ih r hr (by omega) hz.1
    have hx : -1099511627776 ≤ x.2 ∧ x.2 ≤ 1099511627776 := by simpa [smallB] using hz.2
    have h2 := sumI_bd _ (grp_small hz.1 x.1)
    have h3 := grpOf_len r x.1
    rw [sumS_snoc, sAdd, at0_ins, grpOf_snoc]
    by_cases hk : k = x.1
    · subst hk
      rw [if_pos rfl, h1]
      simp only [if_true]
      rw [sumI_app]
      have hw : wrap64 (sumI (grpOf r x.1) + x.2) = sumI (grpOf r x.1) + x.2 := by
        unfold wrap64
        omega
      rw [hw]
      simp [sumI]
    · rw [if_neg hk, h1]
      simp only [hk, if_false]
theorem sumS_keys : ∀ (l : List (Int × Int)) (s : List (Int × Int)), (s.map (·.1)).Nodup → ((l.foldl (fun s x => sAdd s x.1 x.2) s).map (·.1)).Nodup
  | [], _, h => h
  | x :: r, s, h => sumS_keys r (sAdd s x.1 x.2) (ins_nodup h _ _)
theorem sumS_len : ∀ (l : List (Int × Int)) (s : List (Int × Int)), (l.foldl (fun s x => sAdd s x.1 x.2) s).length ≤ s.length + l.length
  | [], s => by simp
  | x :: r, s => by
    rw [List.foldl_cons]
    have h1 := sumS_len r (sAdd s x.1 x.2)
    have h2 := sAdd_len s x.1 x.2
    simp only [List.length_cons]
    omega
theorem sumS_vals : ∀ (l : List (Int × Int)) (s : List (Int × Int)), (∀ x ∈ s, I64 x.2) → ∀ x ∈ l.foldl (fun s x => sAdd s x.1 x.2) s, I64 x.2
  | [], s, h => h
  | x :: r, s, h => sumS_vals r (sAdd s x.1 x.2) (sAdd_vals h _ _)
theorem look_mem {s : List (Int × Int)} (h : (s.map (·.1)).Nodup) {k v : Int} (hm : (k, v) ∈ s) : at0 s k = v := by
  induction s with
  | nil => simp at hm
  | cons x r ih =>
    rw [List.map_cons, List.nodup_cons] at h
    rcases List.mem_cons.1 hm with rfl | hm
    · simp [at0, look]
    · have hne : ¬ x.1 = k := fun e => h.1 (by rw [e]; exact List.mem_map.2 ⟨(k, v), hm, rfl⟩)
      have := ih h.2 hm
      unfold at0 look at this ⊢
      rw [List.find?_cons_of_neg (by simpa using hne)]
      exact this
/-- how many of the numbers have a sum -/
def cntNZ (s : List (Int × Int)) (ks : List Int) : Nat := (ks.filter (fun k => at0 s k != 0)).length
theorem cntNZ_snoc (s : List (Int × Int)) (ks : List Int) (k : Int) : cntNZ s (ks ++ [k]) = cntNZ s ks + (if at0 s k == 0 then 0 else 1) := by
  unfold cntNZ
  rw [List.filter_append, List.length_append]
  by_cases h : at0 s k = 0 <;> simp [h]
theorem cntNZ_perm {s : List (Int × Int)} {a b : List Int} (h : a.Perm b) : cntNZ s a = cntNZ s b := (h.filter _).length_eq
theorem plus_count {s R : List (Int × Int)} (hs : (s.map (·.1)).Nodup) (hR : R.Pairwise (fun a b => a.1 < b.1)) (hm : ∀ u, u ∈ R ↔ at0 s u.1 = u.2 ∧ u.2 ≠ 0) : R.length = cntNZ s (s.map (·.1)) := by
  have hn : (R.map (·.1)).Nodup := by
    rw [List.nodup_iff_pairwise_ne, List.pairwise_map]
    exact hR.imp (fun h e => by omega)
  have hp : (R.map (·.1)).Perm ((s.map (·.1)).filter (fun k => at0 s k != 0)) := by
    refine (List.perm_ext_iff_of_nodup hn (hs.filter _)).2 (fun k => ?_)
    rw [List.mem_filter]
    constructor
    · intro hk
      obtain ⟨u, hu, rfl⟩ := List.mem_map.1 hk
      obtain ⟨h1, h2⟩ := (hm u).1 hu
      refine ⟨?_, by rw [h1]; simpa using h2⟩
      rcases Classical.em (u.1 ∈ s.map (·.1)) with h | h
      · exact h
      · rw [at0_none h] at h1
        exact absurd h1.symm h2
    · rintro ⟨_, h2⟩
      exact List.mem_map.2 ⟨(k, at0 s k), (hm _).2 ⟨rfl, by simpa using h2⟩, rfl⟩
  have := hp.length_eq
  rw [List.length_map] at this
  exact this
end Go.Proofs.Ytfbbjlhhkfdncaa
