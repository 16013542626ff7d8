/- A region that draws its order, shown by what holds between its operations, whatever was done so far. -/
import Derived.Orders
import Derived.Deep.QuietTactic
import Derived.Deep.RegionHeld3
set_option linter.unusedVariables false
set_option linter.unusedSimpArgs false
namespace Go.Proofs.Ytogikjnfmcfbmaa
open Go

/-- each operation waits for earlier ones alone -/
def backB (l : List Oper) : Bool := (List.range l.length).all fun i => ((l[i]?).map fun o => o.after.all fun e => decide (e.on < i)).getD true
def updD (d : Nat → Bool) (i : Nat) : Nat → Bool := fun j => j == i || d j

section
variable {P : Program} {Q : Exit → Act → World → Prop}

theorem wpAny_inv {md : Region.Mode} {ops : Array Oper} {I : (Nat → Bool) → Act → World → Prop}
    (hEnd : ∀ listed a w, listed.size = ops.size → I (fun i => listed.getD i false) a w → Region.ready md ops listed = [] → Q .normal a w)
    (hS : ∀ i listed a w, listed.size = ops.size → I (fun i => listed.getD i false) a w → i ∈ Region.ready md ops listed → wpOp P ops Q i (I (fun j => (listed.setIfInBounds i true).getD j false)) a w) :
    ∀ (fuel : Nat) (listed : Array Bool) (a : Act) (w : World), listed.size = ops.size → (listed.toList.countP (fun b => !b)) ≤ fuel → I (fun i => listed.getD i false) a w → wpAny P md ops Q fuel listed a w := by
  intro fuel
  induction fuel with
  | zero =>
    intro listed a w hs hc hI
    have hr : Region.ready md ops listed = [] := by
      unfold Region.ready
      rw [List.filter_eq_nil_iff]
      intro i hi hc'
      rw [List.mem_range] at hi
      have hz : listed.toList.countP (fun b => !b) = 0 := by omega
      rw [List.countP_eq_zero] at hz
      have hlt : i < listed.size := by omega
      have := hz listed[i] (by simp)
      simp [hlt] at hc' this
      rw [hc'.1] at this
      cases this
    exact ⟨hr, hEnd listed a w hs hI hr⟩
  | succ fuel ih =>
    intro listed a w hs hc hI
    refine ⟨fun hr => hEnd listed a w hs hI hr, fun i hi => ?_⟩
    refine wpOp_mono (fun a' w' h => ih _ a' w' (by simpa using hs) ?_ h) (hS i listed a w hs hI hi)
    have hun : listed.getD i true = false := by
      unfold Region.ready at hi
      rw [List.mem_filter] at hi
      have := hi.2
      simp at this
      simpa using this.1
    have hlt : i < listed.size := by
      rcases Nat.lt_or_ge i listed.size with h | h
      · exact h
      · simp [Array.getElem?_eq_none h] at hun
    have hv : listed[i] = false := by simpa [hlt] using hun
    have : (listed.setIfInBounds i true).toList.countP (fun b => !b) + 1 = listed.toList.countP (fun b => !b) := by
      rw [Array.toList_setIfInBounds, List.countP_set (by simpa using hlt)]
      have hg : listed.toList[i] = false := by simpa using hv
      rw [hg]
      have hpos : 0 < listed.toList.countP (fun b => !b) := List.countP_pos_iff.2 ⟨false, by rw [← hg]; exact List.getElem_mem _, rfl⟩
      simp only [Bool.not_false, Bool.not_true, if_true, Bool.false_eq_true, if_false]
      omega
    omega

/-- what is asked of each operation -/
def InvSteps (P : Program) (Q : Exit → Act → World → Prop) (I : (Nat → Bool) → Act → World → Prop) : List Oper → Nat → Prop
  | [], _ => True
  | o :: l, k => (∀ d a w, I d a w → d k = false → (∀ e ∈ o.after.toList, Region.binds .any e = true → d e.on = true) → o.wp P a w (I (updD d k)) Q) ∧ InvSteps P Q I l (k + 1)
theorem InvSteps.at {I : (Nat → Bool) → Act → World → Prop} : ∀ {l : List Oper} {k : Nat}, InvSteps P Q I l k → ∀ {i : Nat} {o : Oper}, l[i]? = some o →
    ∀ d a w, I d a w → d (k + i) = false → (∀ e ∈ o.after.toList, Region.binds .any e = true → d e.on = true) → o.wp P a w (I (updD d (k + i))) Q
  | [], _, _, i, o, h => by simp at h
  | x :: l, k, hs, 0, o, h => by
    simp at h
    subst h
    exact hs.1
  | x :: l, k, hs, i + 1, o, h => by
    have := InvSteps.at (l := l) (k := k + 1) hs.2 (i := i) (o := o) (by simpa using h)
    rw [show k + (i + 1) = k + 1 + i from by omega]
    exact this

theorem wp_region_inv {id : Nat} {a : Act} {w : World} {l : List Oper} (hm : P.follows .mixedOrders = true) (hB : backB l = true) (hg : l.all (fun o => o.guard.isNone) = true) (I : (Nat → Bool) → Act → World → Prop)
    (hC : ∀ d d' a w, (∀ i, i < l.length → d i = d' i) → I d a w → I d' a w)
    (h0 : I (fun _ => false) a w.drew) (hEnd : ∀ d a w, (∀ i, i < l.length → d i = true) → I d a w → Q .normal a w) (hS : InvSteps P Q I l 0) :
    (Code.region id l.toArray true).wp P Q a w := by
  refine wp_region_any hm (wpAny_inv (I := I) ?_ ?_ _ _ _ _ (by simp) ?_ ?_)
  · intro listed a w hs hI hr
    refine hEnd _ a w (fun i hi => ?_) hI
    -- the least that is not done would be ready
    rcases Classical.em (∀ i, i < l.length → listed.getD i false = true) with h | h
    · exact h i hi
    · exfalso
      have hex : ∃ n, n < l.length ∧ listed.getD n false = false := by
        rcases Classical.em (∃ n, n < l.length ∧ listed.getD n false = false) with h' | h'
        · exact h'
        · refine absurd (fun n hn => ?_) h
          cases hv : listed.getD n false with
          | true => rfl
          | false => exact absurd ⟨n, hn, hv⟩ h'
      have least : ∀ n, (n < l.length ∧ listed.getD n false = false) → ∃ m, m < l.length ∧ listed.getD m false = false ∧ ∀ j, j < m → listed.getD j false = true := by
        intro n
        induction n using Nat.strongRecOn with
        | _ n ih =>
          intro hn
          rcases Classical.em (∃ j, j < n ∧ listed.getD j false = false) with ⟨j, hj, hv⟩ | h'
          · exact ih j hj ⟨by omega, hv⟩
          · refine ⟨n, hn.1, hn.2, fun j hj => ?_⟩
            cases hv : listed.getD j false with
            | true => rfl
            | false => exact absurd ⟨j, hj, hv⟩ h'
      obtain ⟨n, hn⟩ := hex
      obtain ⟨m, hm1, hm2, hm3⟩ := least n hn
      have hsz : listed.size = l.length := by simpa using hs
      have : m ∈ Region.ready .any l.toArray listed := by
        unfold Region.ready
        rw [List.mem_filter]
        refine ⟨by simpa using hm1, ?_⟩
        have hlt : m < listed.size := by omega
        have h1 : listed.getD m true = false := by simpa [hlt] using hm2
        rw [h1]
        have hbk := hB
        unfold backB at hbk
        rw [List.all_eq_true] at hbk
        have hb1 := hbk m (by simpa using hm1)
        rw [List.getElem?_eq_getElem hm1] at hb1
        simp only [Option.map_some, Option.getD_some] at hb1
        simp only [List.getElem?_toArray, List.getElem?_eq_getElem hm1, Option.map_some, Option.getD_some, Bool.not_false, Bool.true_and]
        rw [Array.all_eq_true'] at hb1 ⊢
        intro e he
        have := hb1 e he
        simp only [decide_eq_true_eq] at this
        rw [hm3 e.on this]
        simp
      rw [hr] at this
      cases this
  · intro i listed a w hs hI hi
    unfold Region.ready at hi
    rw [List.mem_filter, List.mem_range] at hi
    obtain ⟨hi1, hi2⟩ := hi
    have hi1' : i < l.length := by simpa using hi1
    have hsz : listed.size = l.length := by simpa using hs
    have hlt : i < listed.size := by omega
    rw [Bool.and_eq_true] at hi2
    obtain ⟨h1, h2⟩ := hi2
    simp only [List.getElem?_toArray, List.getElem?_eq_getElem hi1', Option.map_some, Option.getD_some] at h2
    have hun : listed.getD i false = false := by
      have : listed.getD i true = false := by simpa using h1
      simpa [hlt] using this
    have ho : l.toArray[i]? = some l[i] := by simp [hi1']
    unfold wpOp
    rw [ho]
    simp only
    have hgi : l[i].guard = none := by
      have := List.all_eq_true.1 hg l[i] (List.getElem_mem hi1')
      simpa using this
    have hw : Region.wanted l[i] (yielded l.toArray a.tmps) = true := by simp [Region.wanted, hgi]
    rw [if_pos hw]
    left
    have hst := hS.at (List.getElem?_eq_getElem hi1') _ a w hI (by simpa using hun) (fun e he hb => by
      rw [Array.all_eq_true'] at h2
      have := h2 e (by simpa using he)
      simpa [hb] using this)
    refine Oper.wp_mono (fun a' w' h => hC _ _ a' w' (fun j hj => ?_) h) hst
    unfold updD
    have hj' : j < listed.size := by omega
    simp only [Nat.zero_add]
    by_cases hji : j = i
    · subst hji
      simp [hj']
    · rw [show (j == i) = false from by simpa using hji]
      have : (listed.setIfInBounds i true).getD j false = listed.getD j false := by
        simp [Array.getElem?_setIfInBounds, Ne.symm hji, Array.getD_eq_getD_getElem?]
      rw [this]
      rfl
  · rw [Array.toList_replicate, List.countP_replicate]
    simp
  · exact hC (fun _ => false) _ _ _ (fun i hi => by simp [hi]) h0
end
end Go.Proofs.Ytogikjnfmcfbmaa
