/- merge, plain: changes of different journals. -/
import Derived.Test.YtogikjnfmcfbmaaX39MergeApart
import Derived.Test.YtogikjnfmcfbmaaX36MergeApart
set_option linter.unusedVariables false
set_option linter.unusedSimpArgs false
namespace Go.Proofs.Ytogikjnfmcfbmaa
open Go.RowKit Go.Maps

def samB (X Y : List Jn) (k : Int) : Bool := (hasJ X k == hasJ Y k) && sameJ (getJ X k) (getJ Y k)
def apA (X Y O : List Jn) (z : Jn) : List Jn := if samB X Y z.id then putJ O z else if hasJ X z.id then putJ O (getJ X z.id) else O
def apB (Y Z O : List Jn) (x : Jn) : List Jn := if !hasJ Z x.id && (!hasJ Y x.id || !sameJ x (getJ Y x.id)) then putJ O x else O
def mineJ (X Y Z : List Jn) : List Jn := X.foldl (apB Y Z) (Z.foldl (apA X Y) [])
def fA (X Y : List Jn) (z : Jn) : Option Jn := if samB X Y z.id then some z else if hasJ X z.id then some (getJ X z.id) else none
def fB (Y Z : List Jn) (x : Jn) : Option Jn := if !hasJ Z x.id && (!hasJ Y x.id || !sameJ x (getJ Y x.id)) then some x else none
def optStep (f : Jn → Option Jn) (O : List Jn) (z : Jn) : List Jn := match f z with | some u => putJ O u | none => O
theorem apA_is (X Y : List Jn) : apA X Y = optStep (fA X Y) := by
  funext O z
  unfold apA optStep fA
  cases samB X Y z.id <;> cases hasJ X z.id <;> simp
theorem apB_is (Y Z : List Jn) : apB Y Z = optStep (fB Y Z) := by
  funext O x
  unfold apB optStep fB
  cases (!hasJ Z x.id && (!hasJ Y x.id || !sameJ x (getJ Y x.id))) <;> simp
theorem put_new {O : List Jn} (h : O.Pairwise (fun x y => x.id < y.id)) {x : Jn} (hne : ∀ y ∈ O, y.id ≠ x.id) : (putJ O x).Pairwise (fun x y => x.id < y.id) ∧ ∀ y, y ∈ putJ O x ↔ y = x ∨ y ∈ O := by
  obtain ⟨a, b, hO, ha, hb⟩ := split_at h x.id
  have hb' : ∀ y ∈ b, x.id < y.id := fun y hy => by
    have := hb y hy
    have := hne y (by rw [hO]; exact List.mem_append_right _ hy)
    omega
  have hput : putJ O x = a ++ x :: b := by rw [hO]; exact putJ_split x a b ha hb'
  have hmem : ∀ y, y ∈ putJ O x ↔ y = x ∨ y ∈ O := by
    intro y
    rw [hput, hO]
    simp only [List.mem_append, List.mem_cons]
    constructor
    · rintro (h | rfl | h)
      · exact .inr (.inl h)
      · exact .inl rfl
      · exact .inr (.inr h)
    · rintro (rfl | h | h)
      · exact .inr (.inl rfl)
      · exact .inl h
      · exact .inr (.inr h)
  refine ⟨?_, hmem⟩
  rw [hput]
  have hp := h
  rw [hO, List.pairwise_append] at hp
  rw [List.pairwise_append, List.pairwise_cons]
  refine ⟨hp.1, ⟨hb', hp.2.1⟩, fun y hy z hz => ?_⟩
  rcases List.mem_cons.1 hz with rfl | hz
  · exact ha y hy
  · exact hp.2.2 y hy z hz
theorem opt_fold (f : Jn → Option Jn) (hf : ∀ z u, f z = some u → u.id = z.id) : ∀ (l O : List Jn), l.Pairwise (fun x y => x.id < y.id) → O.Pairwise (fun x y => x.id < y.id) → (∀ z ∈ l, ∀ u, f z = some u → ∀ y ∈ O, y.id ≠ z.id) →
    (l.foldl (optStep f) O).Pairwise (fun x y => x.id < y.id) ∧ ∀ y, y ∈ l.foldl (optStep f) O ↔ y ∈ O ∨ ∃ z ∈ l, f z = some y
  | [], O, _, hO, _ => ⟨hO, fun y => by simp⟩
  | z :: r, O, hl, hO, hn => by
    rw [List.pairwise_cons] at hl
    rw [List.foldl_cons]
    cases hz : f z with
    | none =>
      have e : optStep f O z = O := by unfold optStep; rw [hz]
      rw [e]
      obtain ⟨h1, h2⟩ := opt_fold f hf r O hl.2 hO (fun u hu => hn u (List.mem_cons_of_mem _ hu))
      refine ⟨h1, fun y => ?_⟩
      rw [h2]
      constructor
      · rintro (h | ⟨u, hu, he⟩)
        · exact .inl h
        · exact .inr ⟨u, List.mem_cons_of_mem _ hu, he⟩
      · rintro (h | ⟨u, hu, he⟩)
        · exact .inl h
        · rcases List.mem_cons.1 hu with rfl | hu
          · rw [hz] at he; cases he
          · exact .inr ⟨u, hu, he⟩
    | some v =>
      have e : optStep f O z = putJ O v := by unfold optStep; rw [hz]
      have hv := hf z v hz
      have hnew : ∀ y ∈ O, y.id ≠ v.id := fun y hy => by rw [hv]; exact hn z (List.mem_cons_self ..) v hz y hy
      obtain ⟨p1, p2⟩ := put_new hO hnew
      rw [e]
      obtain ⟨h1, h2⟩ := opt_fold f hf r (putJ O v) hl.2 p1 (fun u hu s hs y hy => by
        rcases (p2 y).1 hy with rfl | hy
        · have := hl.1 u hu; omega
        · exact hn u (List.mem_cons_of_mem _ hu) s hs y hy)
      refine ⟨h1, fun y => ?_⟩
      rw [h2, p2]
      constructor
      · rintro ((rfl | h) | ⟨u, hu, he⟩)
        · exact .inr ⟨z, List.mem_cons_self .., hz⟩
        · exact .inl h
        · exact .inr ⟨u, List.mem_cons_of_mem _ hu, he⟩
      · rintro (h | ⟨u, hu, he⟩)
        · exact .inl (.inr h)
        · rcases List.mem_cons.1 hu with rfl | hu
          · rw [hz] at he
            injection he with he
            exact .inl (.inl he.symm)
          · exact .inr ⟨u, hu, he⟩
theorem getJ_hasJ {l : List Jn} {k : Int} (h : hasJ l k = true) : getJ l k ∈ l ∧ (getJ l k).id = k := by
  obtain ⟨x, hx, rfl⟩ := hasJ_iff.1 h
  unfold getJ
  cases hf : l.find? (fun j => j.id == x.id) with
  | none =>
    rw [List.find?_eq_none] at hf
    have := hf x hx
    simp at this
  | some u => exact ⟨List.mem_of_find?_eq_some hf, by simpa using List.find?_some hf⟩
theorem fA_id {X Y : List Jn} {z u : Jn} (h : fA X Y z = some u) : u.id = z.id := by
  unfold fA at h
  split at h
  · injection h with h; rw [h]
  · split at h
    · rename_i hx
      injection h with h
      rw [← h]
      exact (getJ_hasJ hx).2
    · cases h
theorem fB_is {Y Z : List Jn} {x u : Jn} (h : fB Y Z x = some u) : u = x ∧ hasJ Z x.id = false ∧ (hasJ Y x.id = false ∨ sameJ x (getJ Y x.id) = false) := by
  unfold fB at h
  split at h
  · rename_i hc
    injection h with h
    simpa [Bool.and_eq_true, h] using hc
  · cases h
theorem mine_is {X Y Z : List Jn} (hX : ValJ X) (hZ : ValJ Z) : (mineJ X Y Z).Pairwise (fun x y => x.id < y.id) ∧ ∀ y, y ∈ mineJ X Y Z ↔ (∃ z ∈ Z, fA X Y z = some y) ∨ ∃ x ∈ X, fB Y Z x = some y := by
  unfold mineJ
  rw [apA_is, apB_is]
  obtain ⟨a1, a2⟩ := opt_fold (fA X Y) (fun z u h => fA_id h) Z [] hZ.inc List.Pairwise.nil (by simp)
  obtain ⟨b1, b2⟩ := opt_fold (fB Y Z) (fun z u h => by rw [(fB_is h).1]) X _ hX.inc a1 (fun x hx u hu y hy e => by
    obtain ⟨h1, h2, _⟩ := fB_is hu
    rcases (a2 y).1 hy with hy | ⟨z, hz, hy⟩
    · cases hy
    · have := fA_id hy
      rw [hasJ_iff.2 ⟨z, hz, by omega⟩] at h2
      cases h2)
  refine ⟨b1, fun y => ?_⟩
  rw [b2, a2]
  simp
theorem mine_get {X Y Z : List Jn} (hX : ValJ X) (hZ : ValJ Z) (hM : ValJ (mineJ X Y Z)) (k : Int) : getJ (mineJ X Y Z) k = if samB X Y k then getJ Z k else getJ X k := by
  obtain ⟨_, hmem⟩ := mine_is (Y := Y) hX hZ
  have hself : ∀ y, y ∈ mineJ X Y Z → y.id = k → getJ (mineJ X Y Z) k = y := fun y hy e => by rw [← e]; exact getJ_self hM hy
  have hnone : (∀ y ∈ mineJ X Y Z, y.id ≠ k) → getJ (mineJ X Y Z) k = jn0 := fun h => getJ_no (by
    cases hh : hasJ (mineJ X Y Z) k with
    | false => rfl
    | true =>
      obtain ⟨y, hy, e⟩ := hasJ_iff.1 hh
      exact absurd e (h y hy))
  cases hs : samB X Y k
  · rw [if_neg (by decide)]
    cases hx : hasJ X k
    · rw [getJ_no hx]
      refine hnone (fun y hy e => ?_)
      rcases (hmem y).1 hy with ⟨z, hz, hf⟩ | ⟨x, hx', hf⟩
      · have hid := fA_id hf
        unfold fA at hf
        rw [← hid, e, hs, hx] at hf
        simp at hf
      · obtain ⟨rfl, _⟩ := fB_is hf
        rw [hasJ_iff.2 ⟨y, hx', e⟩] at hx
        cases hx
    · obtain ⟨g1, g2⟩ := getJ_hasJ hx
      refine hself _ ((hmem _).2 ?_) g2
      cases hz : hasJ Z k
      · refine .inr ⟨_, g1, ?_⟩
        unfold fB
        rw [g2, hz]
        have hc : (!hasJ Y k || !sameJ (getJ X k) (getJ Y k)) = true := by
          unfold samB at hs
          rw [hx] at hs
          cases hy : hasJ Y k
          · rfl
          · rw [hy] at hs
            simpa using hs
        rw [hc]
        rfl
      · obtain ⟨z1, z2⟩ := getJ_hasJ hz
        refine .inl ⟨_, z1, ?_⟩
        unfold fA
        rw [z2, hs, hx]
        simp
  · rw [if_pos rfl]
    cases hz : hasJ Z k
    · rw [getJ_no hz]
      refine hnone (fun y hy e => ?_)
      rcases (hmem y).1 hy with ⟨z, hz', hf⟩ | ⟨x, hx', hf⟩
      · have hid := fA_id hf
        rw [hasJ_iff.2 ⟨z, hz', by omega⟩] at hz
        cases hz
      · obtain ⟨rfl, _, hc⟩ := fB_is hf
        have hx : hasJ X k = true := hasJ_iff.2 ⟨y, hx', e⟩
        have hg : getJ X k = y := by rw [← e]; exact getJ_self hX hx'
        unfold samB at hs
        rw [hx, hg] at hs
        rw [e] at hc
        simp only [Bool.and_eq_true, beq_iff_eq] at hs
        rcases hc with hc | hc
        · rw [hc] at hs; cases hs.1
        · rw [hc] at hs; cases hs.2
    · obtain ⟨z1, z2⟩ := getJ_hasJ hz
      refine hself _ ((hmem _).2 (.inl ⟨_, z1, ?_⟩)) z2
      unfold fA
      rw [z2, hs]
      simp
theorem val_of {l : List Jn} (hi : IncJ l) (hlen : l.length ≤ 200) (h : ofB l = true) : ValJ l := by
  have : ∀ n, n ≤ l.length → ofFrom (l.take n) (l.drop n) = true ∧ ValJ (l.take n) := by
    intro n
    induction n with
    | zero => exact fun _ => ⟨h, ValJ.nil⟩
    | succ n ih =>
      intro hn
      obtain ⟨h1, h2⟩ := ih (by omega)
      rw [ofFrom_step (by omega), Bool.and_eq_true] at h1
      refine ⟨h1.2, ?_⟩
      have h3 := (h2.put (by simpa using h1.1)).1
      have h4 := putJ_split l[n] (l.take n) [] (inc_new hi (by omega)) (by simp)
      rw [List.append_nil] at h4
      rw [h4] at h3
      rw [List.take_succ_eq_append_getElem (by omega)]
      exact h3
  have := (this l.length (Nat.le_refl _)).2
  rwa [List.take_length] at this
theorem one_id {l0 l1 l2 : List Jn} {k : Int} (h : (oneAt l0 l1 l2 k).1.id ≠ 0) : (oneAt l0 l1 l2 k).1.id = k := by
  unfold oneAt oneJ at h ⊢
  split at h
  · rename_i hc
    rw [if_pos hc]
    exact (getJ_id h).2
  · rename_i hc
    rw [if_neg hc]
    split at h
    · rename_i hc2
      rw [if_pos hc2]
      exact (getJ_id h).2
    · split at h
      · exact absurd rfl h
      · exact absurd rfl h
theorem apart_plain {X Y Z : List Jn} (hX : ValJ X) (hY : ValJ Y) (hZ : ValJ Z) (hM : ValJ (mineJ X Y Z)) :
    tabC X Y (mineJ X Y Z) = [] ∧ ∀ y ∈ Y, (hasJ X y.id = false ∨ sameJ (getJ X y.id) y = false) → (tabJ X Y (mineJ X Y Z)).find? (fun j => j.id == y.id) = some y := by
  have hone : ∀ k, (oneAt X Y (mineJ X Y Z) k).2 = 0 := by
    intro k
    unfold oneAt oneJ
    rw [mine_get hX hZ hM]
    cases hs : samB X Y k
    · rw [if_neg (show ¬ false = true by decide), sameJ_refl, Bool.or_true, if_pos rfl]
    · have : sameJ (getJ X k) (getJ Y k) = true := by
        unfold samB at hs
        simp only [Bool.and_eq_true] at hs
        exact hs.2
      rw [if_pos rfl, this]
      split
      · rfl
      · rfl
  constructor
  · unfold tabC badL
    rw [List.map_eq_nil_iff, List.filterMap_eq_nil_iff]
    intro k _
    rw [hone k]
    rfl
  · intro y hy hc
    have hYk : hasJ Y y.id = true := hasJ_iff.2 ⟨y, hy, rfl⟩
    have hgy : getJ Y y.id = y := getJ_self hY hy
    have hs : samB X Y y.id = false := by
      unfold samB
      rw [hYk, hgy]
      rcases hc with hc | hc
      · rw [hc]; rfl
      · rw [hc, Bool.and_false]
    have h1 : oneAt X Y (mineJ X Y Z) y.id = (y, 0) := by
      unfold oneAt oneJ
      rw [mine_get hX hZ hM, hs, if_neg (show ¬ false = true by decide), sameJ_refl, Bool.or_true, if_pos rfl, hgy]
    have hid : y.id ≠ 0 := by have := hY.ordJ.ok y hy; omega
    have hin : y ∈ tabJ X Y (mineJ X Y Z) := by
      unfold tabJ cameL
      rw [List.mem_map]
      refine ⟨(y.id, y), ?_, rfl⟩
      rw [List.mem_filterMap]
      refine ⟨y.id, idsJ_mem.2 ⟨y, by simp [hy], rfl⟩, ?_⟩
      rw [h1]
      have : (y.id != 0) = true := by simpa using hid
      simp [hid]
    have huniq : ∀ u ∈ tabJ X Y (mineJ X Y Z), u.id = y.id → u = y := by
      intro u hu e
      unfold tabJ at hu
      obtain ⟨x, hx, rfl⟩ := List.mem_map.1 hu
      obtain ⟨_, k2, _, k4⟩ := cameL_key hx
      rw [k2] at e k4 ⊢
      have := one_id k4
      rw [this] at e
      rw [e, h1]
    cases hf : (tabJ X Y (mineJ X Y Z)).find? (fun j => j.id == y.id) with
    | none =>
      rw [List.find?_eq_none] at hf
      have := hf y hin
      simp at this
    | some u => rw [huniq u (List.mem_of_find?_eq_some hf) (by simpa using List.find?_some hf)]
theorem mine_len {X Y Z : List Jn} : (mineJ X Y Z).length ≤ X.length + Z.length := by
  have hA : ∀ (l O : List Jn), (l.foldl (apA X Y) O).length ≤ O.length + l.length := by
    intro l
    induction l with
    | nil => simp
    | cons z r ih =>
      intro O
      rw [List.foldl_cons]
      refine Nat.le_trans (ih _) ?_
      have : (apA X Y O z).length ≤ O.length + 1 := by
        unfold apA
        split
        · exact putJ_len _ _
        · split
          · exact putJ_len _ _
          · omega
      simp only [List.length_cons]
      omega
  have hB : ∀ (l O : List Jn), (l.foldl (apB Y Z) O).length ≤ O.length + l.length := by
    intro l
    induction l with
    | nil => simp
    | cons z r ih =>
      intro O
      rw [List.foldl_cons]
      refine Nat.le_trans (ih _) ?_
      have : (apB Y Z O z).length ≤ O.length + 1 := by
        unfold apB
        split
        · exact putJ_len _ _
        · omega
      simp only [List.length_cons]
      omega
  unfold mineJ
  have h1 := hB X (Z.foldl (apA X Y) [])
  have h2 := hA Z []
  simp only [List.length_nil] at h2
  omega
end Go.Proofs.Ytogikjnfmcfbmaa
