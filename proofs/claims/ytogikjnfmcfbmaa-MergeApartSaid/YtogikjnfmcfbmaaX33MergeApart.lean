/- merge: conflicts as a list (told). -/
import Derived.Test.YtogikjnfmcfbmaaX29MergeApart
import Derived.Test.YtogikjnfmcfbmaaX22MergeApart
import Derived.Test.YtogikjnfmcfbmaaX32MergeApart
set_option linter.unusedVariables false
set_option linter.unusedSimpArgs false
namespace Go.Proofs.Ytogikjnfmcfbmaa
open Go.RowKit Go.Maps Go.Sort Go.Shelf

def fCf : Flds Try.prog [fld "Kind" 3 0 0, fld "Id" 3 1 8] 0 (Int × Int × Unit) :=
  Flds.cons (f := fld "Kind" 3 0 0) tInt rfl (Flds.cons (f := fld "Id" 3 1 8) tInt rfl (Flds.nil _ _))
def tCf : Ty Try.prog 64 (Int × Int) := (Ty.struct Try.underlying64 fCf (by kernel_rfl)).map (fun x => (x.1, x.2.1))
theorem cf_inv {w : World} {F : Nat → Prop} {cs : List Value} {x : Int × Int} (h : tCf.R w F cs x) : cs = pairV x ∧ I64 x.1 ∧ I64 x.2 := by
  obtain ⟨y, rfl, c1, c2, rfl, ⟨rfl, h1⟩, c3, c4, rfl, ⟨rfl, h2⟩, rfl⟩ := h
  exact ⟨rfl, h1, h2⟩
theorem cf_mk {w : World} {F : Nat → Prop} (x : Int × Int) (h1 : I64 x.1) (h2 : I64 x.2) : tCf.R w F (pairV x) x :=
  ⟨(x.1, x.2, ()), rfl, [_], [_], rfl, ⟨rfl, h1⟩, [_], [], rfl, ⟨rfl, h2⟩, rfl⟩
theorem cf_one (w : World) (F : Nat → Prop) (c : List Value) (x : Int × Int) (h : tCf.R w F c x) : ∀ u ∈ c, u.oneCell' = true := by
  obtain ⟨rfl, _⟩ := cf_inv h
  simp [Value.oneCell']
theorem infoCf : (Try.prog.info? 64).map (fun i => (i.zero, i.size, i.bytes)) = some (some (.agg #[.int .i64 0, .int .i64 0]), 2, 16) := by kernel_rfl
def toldL (bad : List (Int × Int)) : List (Int × Int) := (srt (bad.map (·.1))).map (fun k => (at0 bad k, k))

set_option maxHeartbeats 8000000 in
set_option maxRecDepth 100000 in
theorem told_any {w : World} {b : Nat} {bad : List (Int × Int)} (h : MapIs mInt (Value.int .i64) w b bad) (hl : bad.length ≤ 1000) (hv : ∀ k, I64 (at0 bad k)) :
    Calls Try.prog 32 #[.map (some b)] w fun e w' => ∃ v, e = .returned v ∧ OwnL tCf w' w.heap.size v (toldL bad) ∧ Below w.heap.size w w' := by
  have HM := Lib.hid h
  have HV := Lib.hid hv
  have HKW : Hid (∀ k ∈ srt (bad.map (·.1)), I64 k) := Lib.hid (fun k hk => by
    obtain ⟨x, hx, rfl⟩ := List.mem_map.1 (srt_mem.1 hk)
    exact h.oks x hx)
  have HC := Lib.hid (sortedII w.heap.size b bad (w.alloc (.cells #[.map (some b)] 68)) (by simp) (by rw [blk_cells (blk_new w (.cells #[.map (some b)] 68)) 0]; rfl) (h.keep (Below.heap_alloc w _ _ h.lt)) (by omega))
  have hsl : (srt (bad.map (·.1))).length ≤ 1000 := by rw [srt_len, List.length_map]; exact hl
  obtain ⟨i0, hi, hz0, hz1, hz2⟩ := info_parts infoCf
  clear h hv
  unfold toldL
  obtain ⟨ks, hks⟩ : ∃ ks, srt (bad.map (·.1)) = ks := ⟨_, rfl⟩
  rw [hks] at HKW hsl ⊢
  have HKE := Lib.hid hks
  clear hks
  go_enter Try.func32, Try.ntmps32
  go_wp2_with fail
  refine (keysfII (some b) w).mono ?_
  rintro en w1 ⟨rfl, rfl⟩
  go_wp2_with fail
  refine HC.out.mono ?_
  rintro en w2 ⟨v, rfl, ho, hb⟩
  rw [HKE.out] at ho
  have HB2 := Lib.hid (belows_then ((Below.refl w.heap.size w).alloc (Nat.le_refl _) (.cells #[.map (some b)] 68)) (by simp) hb)
  obtain ⟨ka, kc, rfl, _, _, hks⟩ := ho.slice
  have HKS := Lib.hid hks
  clear ho hb hks HC
  go_wp2_with fail
  go_loopw [3, 10] (fun vo vi wr => ∃ (n : Nat) (vx : Value), vx = vo ∧ n ≤ ks.length ∧ vi = .int .i64 n ∧ OwnL tCf wr w2.heap.size vx ((ks.take n).map (fun k => (at0 bad k, k))) ∧ Below w.heap.size w wr ∧ Below w2.heap.size w2 wr) (fun _ vi _ => ks.length - (intOf vi).toNat)
  case atStart => exact ⟨0, _, rfl, Nat.zero_le _, rfl, OwnL.nil _ _, HB2.out, Below.refl _ _⟩
  case round =>
    obtain ⟨n, vo, rfl, hn, rfl, ho, hb, hb2⟩ := hrel
    have HO := Lib.hid ho
    have HB := Lib.hid hb
    have HBB := Lib.hid hb2
    clear ho hb hb2
    by_cases hlt : n < ks.length
    · obtain ⟨ad, rfl, hadl, hc0⟩ := int_at (Sl.keep (fun k hk _ => HBB.out.block k hk) HKS.out) n hlt
      have HK := Lib.hid (HKW.out ks[n] (List.getElem_mem hlt))
      have HTK : Hid ((ks.take (n + 1)).map (fun k => (at0 bad k, k)) = (ks.take n).map (fun k => (at0 bad k, k)) ++ [(at0 bad ks[n], ks[n])]) := Lib.hid (by rw [List.take_succ_eq_append_getElem hlt, List.map_append]; rfl)
      have hnum : ((ks.take n).map (fun k => (at0 bad k, k))).length ≤ 1000 := by rw [List.length_map, List.length_take]; omega
      have HVK := Lib.hid (HV.out ks[n])
      have hlk := lookI HM.out Try.underlying68 HK.out wr (HB.out.block b HM.out.lt)
      generalize ks[n] = k at *
      generalize at0 bad k = v at *
      have HOA := Lib.hid (HO.out.alloc (.cells #[.int .i64 v, .int .i64 k] 64))
      have HBA := Lib.hid (HB.out.alloc HB.out.size (.cells #[.int .i64 v, .int .i64 k] 64))
      have HBA2 := Lib.hid (HBB.out.alloc HBB.out.size (.cells #[.int .i64 v, .int .i64 k] 64))
      have HSL : Hid (Sl tCf (wr.alloc (.cells #[.int .i64 v, .int .i64 k] 64)) (fun kk => some kk ≠ vo.ownBlock ∧ kk < (wr.alloc (.cells #[.int .i64 v, .int .i64 k] 64)).heap.size) (some ⟨wr.heap.size, 0, none⟩) [(v, k)]) :=
        Lib.hid (sl_one2 tCf (x := (v, k)) rfl (blk_new wr _) ⟨fun e => by have := (HO.out.lt _ e.symm).2; omega, by simp⟩ (cf_mk (v, k) HVK.out HK.out))
      have h63 : ((ks.take n).map (fun k => (at0 bad k, k))).length + [((v, k) : Int × Int)].length ≤ maxLen := by simp only [List.length_cons, List.length_nil]; unfold maxLen; omega
      have hby : (((ks.take n).map (fun k => (at0 bad k, k))).length + [((v, k) : Int × Int)].length) * 16 ≤ 140737488355328 := by simp only [List.length_cons, List.length_nil]; omega
      go_wp2_with (at_builtin; refine wp_app (T := tCf) rfl _ _ 38 rfl i0 (.agg #[.int .i64 0, .int .i64 0]) 16 Try.underlying38 hi hz0 hz1 hz2 rfl (by decide) cf_one w2.heap.size vo ((ks.take n).map (fun k => (at0 bad k, k))) rfl HOA.out ⟨wr.heap.size, 0, none⟩ 1 [(v, k)] rfl HSL.out h63 hby HBA2.out.size ?_; intro v3 w3 hown hg hnil hat; have HO3 := Lib.hid hown; have HB4 := Lib.hid (Below.grown HBA2.out hg HBA2.out.size (fun k e => (HOA.out.lt k e).1)); have HB3 := Lib.hid (Below.grown HBA.out hg HBA.out.size (fun k e => Nat.le_trans HB2.out.size (HOA.out.lt k e).1)); clear hown hg hnil hat)
      go_roundw
      case rel => exact ⟨n + 1, _, rfl, by omega, by go_num, by rw [HTK.out]; exact HO3.out, HB3.out, HB4.out⟩
      case measure => simp [intOf]; omega
    · have HL : Hid ((ks.take n).map (fun k => (at0 bad k, k)) = ks.map (fun k => (at0 bad k, k))) := Lib.hid (by rw [take_all hn hlt])
      have hown := HO.out
      rw [HL.out] at hown
      have HW := Lib.hid hown
      clear hown
      go_wp2_with fail
      go_ret
      exact ⟨_, rfl, HW.out.mono HB2.out.size, HB.out⟩
end Go.Proofs.Ytogikjnfmcfbmaa


/- merge.Table: what comes of three books, and the conflicts. -/
set_option linter.unusedVariables false
set_option linter.unusedSimpArgs false
namespace Go.Proofs.Ytogikjnfmcfbmaa
open Go.RowKit Go.Maps Go.Sort Go.Shelf

theorem look_in {κ ν : Type} [DecidableEq κ] {l : List (κ × ν)} (h : (l.map (·.1)).Nodup) {x : κ × ν} (hx : x ∈ l) : look l x.1 = some x.2 := by
  induction l with
  | nil => simp at hx
  | cons y r ih =>
    rw [List.map_cons, List.nodup_cons] at h
    unfold look
    rcases List.mem_cons.1 hx with rfl | hx
    · rw [List.find?_cons_of_pos (by simp)]
      rfl
    · have hne : ¬ y.1 = x.1 := fun e => h.1 (by rw [e]; exact List.mem_map.2 ⟨x, hx, rfl⟩)
      rw [List.find?_cons_of_neg (by simpa using hne)]
      exact ih h.2 hx
theorem srt_self {l : List Int} (h : l.Pairwise (· < ·)) : srt l = l := List.mergeSort_of_pairwise (h.imp (fun h => by simp; omega))
theorem nodup_rise {l : List Int} (h : l.Pairwise (· < ·)) : l.Nodup := h.imp (fun h e => by omega)
theorem cameL_keys (l0 l1 l2 : List Jn) : ∀ ks : List Int, ((cameL l0 l1 l2 ks).map (·.1)).Sublist ks
  | [] => by simp [cameL]
  | k :: r => by
    have ih := cameL_keys l0 l1 l2 r
    have e : cameL l0 l1 l2 (k :: r) = (if (oneAt l0 l1 l2 k).2 == 0 && (oneAt l0 l1 l2 k).1.id != 0 then [(k, (oneAt l0 l1 l2 k).1)] else []) ++ cameL l0 l1 l2 r := by
      unfold cameL
      rw [List.filterMap_cons]
      by_cases h : ((oneAt l0 l1 l2 k).2 == 0 && (oneAt l0 l1 l2 k).1.id != 0) = true
      · simp only [if_pos h]; rfl
      · simp only [if_neg h]; rfl
    rw [e]
    by_cases h : ((oneAt l0 l1 l2 k).2 == 0 && (oneAt l0 l1 l2 k).1.id != 0) = true
    · rw [if_pos h]
      exact List.Sublist.cons_cons k ih
    · rw [if_neg h]
      exact List.Sublist.cons k ih
theorem badL_keys (l0 l1 l2 : List Jn) : ∀ ks : List Int, ((badL l0 l1 l2 ks).map (·.1)).Sublist ks
  | [] => by simp [badL]
  | k :: r => by
    have ih := badL_keys l0 l1 l2 r
    have e : badL l0 l1 l2 (k :: r) = (if (oneAt l0 l1 l2 k).2 != 0 then [(k, (oneAt l0 l1 l2 k).2)] else []) ++ badL l0 l1 l2 r := by
      unfold badL
      rw [List.filterMap_cons]
      by_cases h : ((oneAt l0 l1 l2 k).2 != 0) = true
      · simp only [if_pos h]; rfl
      · simp only [if_neg h]; rfl
    rw [e]
    by_cases h : ((oneAt l0 l1 l2 k).2 != 0) = true
    · rw [if_pos h]
      exact List.Sublist.cons_cons k ih
    · rw [if_neg h]
      exact List.Sublist.cons k ih
/-- what Table tells -/
def tabJ (l0 l1 l2 : List Jn) : List Jn := (cameL l0 l1 l2 (idsJ l0 l1 l2)).map (·.2)
def tabC (l0 l1 l2 : List Jn) : List (Int × Int) := (badL l0 l1 l2 (idsJ l0 l1 l2)).map (fun x => (x.2, x.1))
theorem rawL_came {l0 l1 l2 : List Jn} {cm : List (Int × JV)} (h : cm.map (fun x => (x.1, x.2.j)) = cameL l0 l1 l2 (idsJ l0 l1 l2)) : rawL cm = tabJ l0 l1 l2 := by
  have hk : cm.map (·.1) = (cameL l0 l1 l2 (idsJ l0 l1 l2)).map (·.1) := by rw [← h, List.map_map]; rfl
  have hr : (cm.map (·.1)).Pairwise (· < ·) := by rw [hk]; exact (idsJ_rise l0 l1 l2).sublist (cameL_keys l0 l1 l2 _)
  unfold rawL tabJ
  rw [srt_self hr, ← h, List.map_map, List.map_map]
  refine List.map_congr_left (fun x hx => ?_)
  show atJ cm x.1 = x.2.j
  unfold atJ
  rw [look_in (nodup_rise hr) hx]
  rfl
theorem toldL_bad (l0 l1 l2 : List Jn) : toldL (badL l0 l1 l2 (idsJ l0 l1 l2)) = tabC l0 l1 l2 := by
  have hr : ((badL l0 l1 l2 (idsJ l0 l1 l2)).map (·.1)).Pairwise (· < ·) := (idsJ_rise l0 l1 l2).sublist (badL_keys l0 l1 l2 _)
  unfold toldL tabC
  rw [srt_self hr, List.map_map]
  refine List.map_congr_left (fun x hx => ?_)
  show (at0 _ x.1, x.1) = (x.2, x.1)
  unfold at0
  rw [look_in (nodup_rise hr) hx]
  rfl
theorem getJ_or (l : List Jn) (k : Int) : getJ l k ∈ l ∨ getJ l k = jn0 := by
  unfold getJ
  cases h : l.find? (fun j => j.id == k) with
  | none => exact .inr rfl
  | some x => exact .inl (List.mem_of_find?_eq_some h)
theorem came_ne {l0 l1 l2 : List Jn} (h1 : ∀ x ∈ l1, x.lines ≠ []) (h2 : ∀ x ∈ l2, x.lines ≠ []) {ks : List Int} : ∀ x ∈ cameL l0 l1 l2 ks, x.2.lines ≠ [] := by
  intro x hx
  obtain ⟨_, e, e0, hid⟩ := cameL_key hx
  rw [e] at hid ⊢
  unfold oneAt oneJ at hid e0 ⊢
  split at hid
  · rename_i hc
    rw [if_pos hc]
    rcases getJ_or l1 x.1 with h | h
    · exact h1 _ h
    · rw [h] at hid
      exact absurd rfl hid
  · rename_i hc
    rw [if_neg hc] at e0 ⊢
    split at hid
    · rename_i hc2
      rw [if_pos hc2]
      rcases getJ_or l2 x.1 with h | h
      · exact h2 _ h
      · rw [h] at hid
        exact absurd rfl hid
    · rename_i hc2
      rw [if_neg hc2] at e0
      split at e0 <;> simp at e0

def TableP (w : World) (l0 l1 l2 : List Jn) (e : Ending) (w' : World) : Prop :=
  ∃ v1 v2, e = .returned (.tuple #[v1, v2]) ∧ OwnF tJn w' w.heap.size (fun k => w.heap.size ≤ k) v1 (tabJ l0 l1 l2) ∧ OwnL tCf w' w.heap.size v2 (tabC l0 l1 l2) ∧ Below w.heap.size w w'

set_option maxHeartbeats 8000000 in
set_option maxRecDepth 100000 in
theorem tableF_any {w : World} {g0 g1 g2 : Nat} {l0 l1 l2 : List Jn} (h0 : Bk w g0 l0) (h1 : Bk w g1 l1) (h2 : Bk w g2 l2) :
    Calls Try.prog 14 #[.pointer (some ⟨g0, 0, none⟩), .pointer (some ⟨g1, 0, none⟩), .pointer (some ⟨g2, 0, none⟩)] w (TableP w l0 l1 l2) := by
  have HC := Lib.hid (table_any h0 h1 h2)
  have HN1 := Lib.hid h1.ne
  have HN2 := Lib.hid h2.ne
  have hidl : (idsJ l0 l1 l2).length ≤ 1000 := by
    have h3 := cntS_len ((l0 ++ l1) ++ l2) []
    have h4 := h0.len
    have h5 := h1.len
    have h6 := h2.len
    simp only [List.length_append, List.length_nil] at h3
    unfold idsJ cntS
    rw [srt_len, List.length_map]
    omega
  have hcl : (cameL l0 l1 l2 (idsJ l0 l1 l2)).length ≤ 1000 := by
    have := (cameL_keys l0 l1 l2 (idsJ l0 l1 l2)).length_le
    rw [List.length_map] at this
    omega
  have hbl : (badL l0 l1 l2 (idsJ l0 l1 l2)).length ≤ 1000 := by
    have := (badL_keys l0 l1 l2 (idsJ l0 l1 l2)).length_le
    rw [List.length_map] at this
    omega
  have HBV : Hid (∀ k, I64 (at0 (badL l0 l1 l2 (idsJ l0 l1 l2)) k)) := Lib.hid (fun k => by
    unfold at0
    cases hl : look (badL l0 l1 l2 (idsJ l0 l1 l2)) k with
    | none => decide
    | some v =>
      unfold look at hl
      rw [Option.map_eq_some_iff] at hl
      obtain ⟨u, hu, rfl⟩ := hl
      have h3 := (badL_key (List.mem_of_find?_eq_some hu)).2.1
      rcases oneAt_kind l0 l1 l2 u.1 with h | h | h <;> rw [h3, h] <;> decide)
  clear h0 h1 h2
  go_enter Try.func14, Try.ntmps14
  go_wp2_with fail
  refine HC.out.mono ?_
  rintro en w2 ⟨bc, bb, cm, rfl, hj, hcm, hm, hb⟩
  have HJ := Lib.hid hj
  have HM := Lib.hid hm
  have HCM := Lib.hid hcm
  have HB2 := Lib.hid hb
  have hcml : cm.length ≤ 1000 := by have := congrArg List.length hcm; rw [List.length_map] at this; omega
  have HNE : Hid (∀ x ∈ cm, x.2.j.lines ≠ []) := Lib.hid (fun x hx => came_ne HN1.out HN2.out (x.1, x.2.j) (by rw [← hcm]; exact List.mem_map.2 ⟨x, hx, rfl⟩))
  clear hj hm hcm hb HC
  go_wp2_with fail
  refine (raw_any HJ.out hcml HNE.out).mono ?_
  rintro en w3 ⟨g, a, cap, rfl, hat, hb⟩
  rw [rawL_came HCM.out] at hat
  have HAT := Lib.hid hat
  have HB3 := Lib.hid (belows_then HB2.out HB2.out.size hb)
  have HM3 := Lib.hid (HM.out.keep (hb.block _ HM.out.lt))
  have htl : (tabJ l0 l1 l2).length ≤ 1000 := by unfold tabJ; rw [List.length_map]; exact hcl
  have HTN : Hid (∀ x ∈ tabJ l0 l1 l2, x.lines ≠ []) := Lib.hid (fun x hx => by
    unfold tabJ at hx
    obtain ⟨y, hy, rfl⟩ := List.mem_map.1 hx
    exact came_ne HN1.out HN2.out y hy)
  clear hat hb
  go_wp2_with fail
  refine (ball_any HAT.out htl HTN.out).mono ?_
  rintro en w4 ⟨v, rfl, ho, hb⟩
  have HB4 := Lib.hid (belows_then HB3.out HB3.out.size hb)
  have HM4 := Lib.hid (HM3.out.keep (hb.block _ HM3.out.lt))
  have HO4 := Lib.hid ho
  clear ho hb
  go_wp2_with fail
  refine (told_any HM4.out hbl HBV.out).mono ?_
  rintro en w5 ⟨v2, rfl, ho2, hb⟩
  rw [toldL_bad] at ho2
  have HB5 := Lib.hid (belows_then HB4.out HB4.out.size hb)
  have HO5 := Lib.hid (HO4.out.below hb)
  have HC5 := Lib.hid ho2
  have hs3 := HB3.out.size
  have hs4 := HB4.out.size
  clear ho2 hb
  go_wp2_with fail
  refine bodyPost_ret (v := .tuple #[v, v2]) (by simp [results, Try.results14, go_sem]) rfl ?_
  exact ⟨v, v2, rfl, (HO5.out.weak (fun k hk _ _ => by omega)).mono hs3, HC5.out.mono hs4, HB5.out⟩
end Go.Proofs.Ytogikjnfmcfbmaa
