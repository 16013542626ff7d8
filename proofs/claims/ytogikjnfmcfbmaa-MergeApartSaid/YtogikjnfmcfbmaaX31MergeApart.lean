/- merge: the table of three books, plain. -/
import Derived.Test.YtogikjnfmcfbmaaX30MergeApart
set_option linter.unusedVariables false
set_option linter.unusedSimpArgs false
namespace Go.Proofs.Ytogikjnfmcfbmaa
open Go.RowKit Go.Maps Go.Sort Go.Shelf

theorem srt_pairM (l : List Int) : (srt l).Pairwise (· ≤ ·) := by
  have := List.pairwise_mergeSort (le := fun (x y : Int) => decide (x ≤ y)) (fun a b c h1 h2 => by simp at *; omega) (fun a b => by simp; omega) l
  exact this.imp (fun h => by simpa using h)
theorem srt_riseM {l : List Int} (h : l.Nodup) : (srt l).Pairwise (· < ·) := by
  have h1 := srt_pairM l
  have h2 : (srt l).Nodup := (List.mergeSort_perm l _).nodup_iff.2 h
  exact (h1.and h2).imp (fun ⟨a, b⟩ => by omega)
theorem ins_nodupM {s : List (Int × Int)} (h : (s.map (·.1)).Nodup) (k v : Int) : ((ins s k v).map (·.1)).Nodup := ins_once h k v

/-- what comes of a number -/
def oneAt (l0 l1 l2 : List Jn) (k : Int) : Jn × Int := oneJ (getJ l0 k) (getJ l1 k) (getJ l2 k)
def cameL (l0 l1 l2 : List Jn) (ks : List Int) : List (Int × Jn) := ks.filterMap (fun k => if (oneAt l0 l1 l2 k).2 == 0 && (oneAt l0 l1 l2 k).1.id != 0 then some (k, (oneAt l0 l1 l2 k).1) else none)
def badL (l0 l1 l2 : List Jn) (ks : List Int) : List (Int × Int) := ks.filterMap (fun k => if (oneAt l0 l1 l2 k).2 != 0 then some (k, (oneAt l0 l1 l2 k).2) else none)
theorem idsJ_rise (l0 l1 l2 : List Jn) : (idsJ l0 l1 l2).Pairwise (· < ·) := by
  unfold idsJ
  refine srt_riseM ?_
  have : ∀ (l : List Jn) (s : List (Int × Int)), (s.map (·.1)).Nodup → ((l.foldl (fun s j => sAdd s j.id 1) s).map (·.1)).Nodup := by
    intro l
    induction l with
    | nil => exact fun s h => h
    | cons x r ih => exact fun s h => ih _ (ins_nodupM h _ _)
  exact this _ [] (by simp)
theorem idsJ_mem {l0 l1 l2 : List Jn} {k : Int} : k ∈ idsJ l0 l1 l2 ↔ ∃ x ∈ (l0 ++ l1) ++ l2, x.id = k := by
  unfold idsJ cntS
  rw [srt_mem, cntS_mem]
  simp
theorem cameL_key {l0 l1 l2 : List Jn} {ks : List Int} {x : Int × Jn} (h : x ∈ cameL l0 l1 l2 ks) : x.1 ∈ ks ∧ x.2 = (oneAt l0 l1 l2 x.1).1 ∧ (oneAt l0 l1 l2 x.1).2 = 0 ∧ x.2.id ≠ 0 := by
  unfold cameL at h
  rw [List.mem_filterMap] at h
  obtain ⟨k, hk, he⟩ := h
  split at he
  · rename_i hc
    injection he with he
    subst he
    simp at hc
    exact ⟨hk, rfl, hc.1, hc.2⟩
  · cases he
theorem badL_key {l0 l1 l2 : List Jn} {ks : List Int} {x : Int × Int} (h : x ∈ badL l0 l1 l2 ks) : x.1 ∈ ks ∧ x.2 = (oneAt l0 l1 l2 x.1).2 ∧ x.2 ≠ 0 := by
  unfold badL at h
  rw [List.mem_filterMap] at h
  obtain ⟨k, hk, he⟩ := h
  split at he
  · rename_i hc
    injection he with he
    subst he
    simp at hc
    exact ⟨hk, rfl, hc⟩
  · cases he
theorem cameL_snoc (l0 l1 l2 : List Jn) (ks : List Int) (k : Int) : cameL l0 l1 l2 (ks ++ [k]) = cameL l0 l1 l2 ks ++ (if (oneAt l0 l1 l2 k).2 == 0 && (oneAt l0 l1 l2 k).1.id != 0 then [(k, (oneAt l0 l1 l2 k).1)] else []) := by
  unfold cameL
  rw [List.filterMap_append]
  congr 1
  by_cases h : ((oneAt l0 l1 l2 k).2 == 0 && (oneAt l0 l1 l2 k).1.id != 0) = true
  · simp only [List.filterMap_cons, List.filterMap_nil, if_pos h]
  · simp only [List.filterMap_cons, List.filterMap_nil, if_neg h]
theorem badL_snoc (l0 l1 l2 : List Jn) (ks : List Int) (k : Int) : badL l0 l1 l2 (ks ++ [k]) = badL l0 l1 l2 ks ++ (if (oneAt l0 l1 l2 k).2 != 0 then [(k, (oneAt l0 l1 l2 k).2)] else []) := by
  unfold badL
  rw [List.filterMap_append]
  congr 1
  by_cases h : ((oneAt l0 l1 l2 k).2 != 0) = true
  · simp only [List.filterMap_cons, List.filterMap_nil, if_pos h]
  · simp only [List.filterMap_cons, List.filterMap_nil, if_neg h]
theorem look_none {κ ν : Type} [DecidableEq κ] {l : List (κ × ν)} {k : κ} (h : k ∉ l.map (·.1)) : look l k = none := by
  unfold look
  rw [Option.map_eq_none_iff, List.find?_eq_none]
  intro x hx he
  exact h (List.mem_map.2 ⟨x, hx, by simpa using he⟩)
end Go.Proofs.Ytogikjnfmcfbmaa
