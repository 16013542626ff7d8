/- merge.Table: what comes of three books, and the conflicts. -/
import Derived.Test.YtogikjnfmcfbmaaX33MergeLike
import Derived.Test.YtogikjnfmcfbmaaX34MergeLike
set_option linter.unusedVariables false
set_option linter.unusedSimpArgs false
namespace Go.Proofs.Ytogikjnfmcfbmaa
open Go.RowKit Go.Maps Go.Sort Go.Shelf

theorem look_in {κ ν : Type} [DecidableEq κ] {l : List (κ × ν)} (h : (l.map (·.1)).Nodup) {x : κ × ν} (hx : x ∈ l) : look l x.1 = some x.2 := by
  induction l with
  | nil => simp at hx
  | cons y r ih =>
    rw [List.map_cons, List.nodup_cons] at h
    unfold look
    rcases List.mem_cons.1 hx with rfl | hx
    · rw [List.find?_cons_of_pos (by simp)]
      rfl
    · have hne : ¬ y.1 = x.1 := fun e => h.1 (by rw [e]; exact List.mem_map.2 ⟨x, hx, rfl⟩)
      rw [List.find?_cons_of_neg (by simpa using hne)]
      exact ih h.2 hx
theorem srt_self {l : List Int} (h : l.Pairwise (· < ·)) : srt l = l := List.mergeSort_of_pairwise (h.imp (fun h => by simp; omega))
theorem nodup_rise {l : List Int} (h : l.Pairwise (· < ·)) : l.Nodup := h.imp (fun h e => by omega)
theorem cameL_keys (l0 l1 l2 : List Jn) : ∀ ks : List Int, ((cameL l0 l1 l2 ks).map (·.1)).Sublist ks
  | [] => by simp [cameL]
  | k :: r => by
    have ih := cameL_keys l0 l1 l2 r
    have e : cameL l0 l1 l2 (k :: r) = (if (oneAt l0 l1 l2 k).2 == 0 && (oneAt l0 l1 l2 k).1.id != 0 then [(k, (oneAt l0 l1 l2 k).1)] else []) ++ cameL l0 l1 l2 r := by
      unfold cameL
      rw [List.filterMap_cons]
      by_cases h : ((oneAt l0 l1 l2 k).2 == 0 && (oneAt l0 l1 l2 k).1.id != 0) = true
      · simp only [if_pos h]; rfl
      · simp only [if_neg h]; rfl
    rw [e]
    by_cases h : ((oneAt l0 l1 l2 k).2 == 0 && (oneAt l0 l1 l2 k).1.id != 0) = true
    · rw [if_pos h]
      exact List.Sublist.cons_cons k ih
    · rw [if_neg h]
      exact List.Sublist.cons k ih
theorem badL_keys (l0 l1 l2 : List Jn) : ∀ ks : List Int, ((badL l0 l1 l2 ks).map (·.1)).Sublist ks
  | [] => by simp [badL]
  | k :: r => by
    have ih := badL_keys l0 l1 l2 r
    have e : badL l0 l1 l2 (k :: r) = (if (oneAt l0 l1 l2 k).2 != 0 then [(k, (oneAt l0 l1 l2 k).2)] else []) ++ badL l0 l1 l2 r := by
      unfold badL
      rw [List.filterMap_cons]
      by_cases h : ((oneAt l0 l1 l2 k).2 != 0) = true
      · simp only [if_pos h]; rfl
      · simp only [if_neg h]; rfl
    rw [e]
    by_cases h : ((oneAt l0 l1 l2 k).2 != 0) = true
    · rw [if_pos h]
      exact List.Sublist.cons_cons k ih
    · rw [if_neg h]
      exact List.Sublist.cons k ih
/-- what Table tells -/
def tabJ (l0 l1 l2 : List Jn) : List Jn := (cameL l0 l1 l2 (idsJ l0 l1 l2)).map (·.2)
def tabC (l0 l1 l2 : List Jn) : List (Int × Int) := (badL l0 l1 l2 (idsJ l0 l1 l2)).map (fun x => (x.2, x.1))
theorem rawL_came {l0 l1 l2 : List Jn} {cm : List (Int × JV)} (h : cm.map (fun x => (x.1, x.2.j)) = cameL l0 l1 l2 (idsJ l0 l1 l2)) : rawL cm = tabJ l0 l1 l2 := by
  have hk : cm.map (·.1) = (cameL l0 l1 l2 (idsJ l0 l1 l2)).map (·.1) := by rw [← h, List.map_map]; rfl
  have hr : (cm.map (·.1)).Pairwise (· < ·) := by rw [hk]; exact (idsJ_rise l0 l1 l2).sublist (cameL_keys l0 l1 l2 _)
  unfold rawL tabJ
  rw [srt_self hr, ← h, List.map_map, List.map_map]
  refine List.map_congr_left (fun x hx => ?_)
  show atJ cm x.1 = x.2.j
  unfold atJ
  rw [look_in (nodup_rise hr) hx]
  rfl
theorem toldL_bad (l0 l1 l2 : List Jn) : toldL (badL l0 l1 l2 (idsJ l0 l1 l2)) = tabC l0 l1 l2 := by
  have hr : ((badL l0 l1 l2 (idsJ l0 l1 l2)).map (·.1)).Pairwise (· < ·) := (idsJ_rise l0 l1 l2).sublist (badL_keys l0 l1 l2 _)
  unfold toldL tabC
  rw [srt_self hr, List.map_map]
  refine List.map_congr_left (fun x hx => ?_)
  show (at0 _ x.1, x.1) = (x.2, x.1)
  unfold at0
  rw [look_in (nodup_rise hr) hx]
  rfl
theorem getJ_or (l : List Jn) (k : Int) : getJ l k ∈ l ∨ getJ l k = jn0 := by
  unfold getJ
  cases h : l.find? (fun j => j.id == k) with
  | none => exact .inr rfl
  | some x => exact .inl (List.mem_of_find?_eq_some h)
theorem came_ne {l0 l1 l2 : List Jn} (h1 : ∀ x ∈ l1, x.lines ≠ []) (h2 : ∀ x ∈ l2, x.lines ≠ []) {ks : List Int} : ∀ x ∈ cameL l0 l1 l2 ks, x.2.lines ≠ [] := by
  intro x hx
  obtain ⟨_, e, e0, hid⟩ := cameL_key hx
  rw [e] at hid ⊢
  unfold oneAt oneJ at hid e0 ⊢
  split at hid
  · rename_i hc
    rw [if_pos hc]
    rcases getJ_or l1 x.1 with h | h
    · exact h1 _ h
    · rw [h] at hid
      exact absurd rfl hid
  · rename_i hc
    rw [if_neg hc] at e0 ⊢
    split at hid
    · rename_i hc2
      rw [if_pos hc2]
      rcases getJ_or l2 x.1 with h | h
      · exact h2 _ h
      · rw [h] at hid
        exact absurd rfl hid
    · rename_i hc2
      rw [if_neg hc2] at e0
      split at e0 <;> simp at e0

def TableP (w : World) (l0 l1 l2 : List Jn) (e : Ending) (w' : World) : Prop :=
  ∃ v1 v2, e = .returned (.tuple #[v1, v2]) ∧ OwnF tJn w' w.heap.size (fun k => w.heap.size ≤ k) v1 (tabJ l0 l1 l2) ∧ OwnL tCf w' w.heap.size v2 (tabC l0 l1 l2) ∧ Below w.heap.size w w'

set_option maxHeartbeats 8000000 in
set_option maxRecDepth 100000 in
theorem tableF_any {w : World} {g0 g1 g2 : Nat} {l0 l1 l2 : List Jn} (h0 : Bk w g0 l0) (h1 : Bk w g1 l1) (h2 : Bk w g2 l2) :
    Calls Try.prog 14 #[.pointer (some ⟨g0, 0, none⟩), .pointer (some ⟨g1, 0, none⟩), .pointer (some ⟨g2, 0, none⟩)] w (TableP w l0 l1 l2) := by
  have HC := Lib.hid (table_any h0 h1 h2)
  have HN1 := Lib.hid h1.ne
  have HN2 := Lib.hid h2.ne
  have hidl : (idsJ l0 l1 l2).length ≤ 1000 := by
    have h3 := cntS_len ((l0 ++ l1) ++ l2) []
    have h4 := h0.len
    have h5 := h1.len
    have h6 := h2.len
    simp only [List.length_append, List.length_nil] at h3
    unfold idsJ cntS
    rw [srt_len, List.length_map]
    omega
  have hcl : (cameL l0 l1 l2 (idsJ l0 l1 l2)).length ≤ 1000 := by
    have := (cameL_keys l0 l1 l2 (idsJ l0 l1 l2)).length_le
    rw [List.length_map] at this
    omega
  have hbl : (badL l0 l1 l2 (idsJ l0 l1 l2)).length ≤ 1000 := by
    have := (badL_keys l0 l1 l2 (idsJ l0 l1 l2)).length_le
    rw [List.length_map] at this
    omega
  have HBV : Hid (∀ k, I64 (at0 (badL l0 l1 l2 (idsJ l0 l1 l2)) k)) := Lib.hid (fun k => by
    unfold at0
    cases hl : look (badL l0 l1 l2 (idsJ l0 l1 l2)) k with
    | none => decide
    | some v =>
      unfold look at hl
      rw [Option.map_eq_some_iff] at hl
      obtain ⟨u, hu, rfl⟩ := hl
      have h3 := (badL_key (List.mem_of_find?_eq_some hu)).2.1
      rcases oneAt_kind l0 l1 l2 u.1 with h | h | h <;> rw [h3, h] <;> decide)
  clear h0 h1 h2
  go_enter Try.func14, Try.ntmps14
  go_wp2_with fail
  refine HC.out.mono ?_
  rintro en w2 ⟨bc, bb, cm, rfl, hj, hcm, hm, hb⟩
  have HJ := Lib.hid hj
  have HM := Lib.hid hm
  have HCM := Lib.hid hcm
  have HB2 := Lib.hid hb
  have hcml : cm.length ≤ 1000 := by have := congrArg List.length hcm; rw [List.length_map] at this; omega
  have HNE : Hid (∀ x ∈ cm, x.2.j.lines ≠ []) := Lib.hid (fun x hx => came_ne HN1.out HN2.out (x.1, x.2.j) (by rw [← hcm]; exact List.mem_map.2 ⟨x, hx, rfl⟩))
  clear hj hm hcm hb HC
  go_wp2_with fail
  refine (raw_any HJ.out hcml HNE.out).mono ?_
  rintro en w3 ⟨g, a, cap, rfl, hat, hb⟩
  rw [rawL_came HCM.out] at hat
  have HAT := Lib.hid hat
  have HB3 := Lib.hid (belows_then HB2.out HB2.out.size hb)
  have HM3 := Lib.hid (HM.out.keep (hb.block _ HM.out.lt))
  have htl : (tabJ l0 l1 l2).length ≤ 1000 := by unfold tabJ; rw [List.length_map]; exact hcl
  have HTN : Hid (∀ x ∈ tabJ l0 l1 l2, x.lines ≠ []) := Lib.hid (fun x hx => by
    unfold tabJ at hx
    obtain ⟨y, hy, rfl⟩ := List.mem_map.1 hx
    exact came_ne HN1.out HN2.out y hy)
  clear hat hb
  go_wp2_with fail
  refine (ball_any HAT.out htl HTN.out).mono ?_
  rintro en w4 ⟨v, rfl, ho, hb⟩
  have HB4 := Lib.hid (belows_then HB3.out HB3.out.size hb)
  have HM4 := Lib.hid (HM3.out.keep (hb.block _ HM3.out.lt))
  have HO4 := Lib.hid ho
  clear ho hb
  go_wp2_with fail
  refine (told_any HM4.out hbl HBV.out).mono ?_
  rintro en w5 ⟨v2, rfl, ho2, hb⟩
  rw [toldL_bad] at ho2
  have HB5 := Lib.hid (belows_then HB4.out HB4.out.size hb)
  have HO5 := Lib.hid (HO4.out.below hb)
  have HC5 := Lib.hid ho2
  have hs3 := HB3.out.size
  have hs4 := HB4.out.size
  clear ho2 hb
  go_wp2_with fail
  refine bodyPost_ret (v := .tuple #[v, v2]) (by simp [results, Try.results14, go_sem]) rfl ?_
  exact ⟨v, v2, rfl, (HO5.out.weak (fun k hk _ _ => by omega)).mono hs3, HC5.out.mono hs4, HB5.out⟩
end Go.Proofs.Ytogikjnfmcfbmaa
