/- merge: conflicts as a list (told). -/
import Derived.Test.YtogikjnfmcfbmaaX30MergeLike
import Derived.Test.YtogikjnfmcfbmaaX23MergeLike
set_option linter.unusedVariables false
set_option linter.unusedSimpArgs false
namespace Go.Proofs.Ytogikjnfmcfbmaa
open Go.RowKit Go.Maps Go.Sort Go.Shelf

def fCf : Flds Try.prog [fld "Kind" 3 0 0, fld "Id" 3 1 8] 0 (Int × Int × Unit) :=
  Flds.cons (f := fld "Kind" 3 0 0) tInt rfl (Flds.cons (f := fld "Id" 3 1 8) tInt rfl (Flds.nil _ _))
def tCf : Ty Try.prog 64 (Int × Int) := (Ty.struct Try.underlying64 fCf (by kernel_rfl)).map (fun x => (x.1, x.2.1))
theorem cf_inv {w : World} {F : Nat → Prop} {cs : List Value} {x : Int × Int} (h : tCf.R w F cs x) : cs = pairV x ∧ I64 x.1 ∧ I64 x.2 := by
  obtain ⟨y, rfl, c1, c2, rfl, ⟨rfl, h1⟩, c3, c4, rfl, ⟨rfl, h2⟩, rfl⟩ := h
  exact ⟨rfl, h1, h2⟩
theorem cf_mk {w : World} {F : Nat → Prop} (x : Int × Int) (h1 : I64 x.1) (h2 : I64 x.2) : tCf.R w F (pairV x) x :=
  ⟨(x.1, x.2, ()), rfl, [_], [_], rfl, ⟨rfl, h1⟩, [_], [], rfl, ⟨rfl, h2⟩, rfl⟩
theorem cf_one (w : World) (F : Nat → Prop) (c : List Value) (x : Int × Int) (h : tCf.R w F c x) : ∀ u ∈ c, u.oneCell' = true := by
  obtain ⟨rfl, _⟩ := cf_inv h
  simp [Value.oneCell']
theorem infoCf : (Try.prog.info? 64).map (fun i => (i.zero, i.size, i.bytes)) = some (some (.agg #[.int .i64 0, .int .i64 0]), 2, 16) := by kernel_rfl
def toldL (bad : List (Int × Int)) : List (Int × Int) := (srt (bad.map (·.1))).map (fun k => (at0 bad k, k))

set_option maxHeartbeats 8000000 in
set_option maxRecDepth 100000 in
theorem told_any {w : World} {b : Nat} {bad : List (Int × Int)} (h : MapIs mInt (Value.int .i64) w b bad) (hl : bad.length ≤ 1000) (hv : ∀ k, I64 (at0 bad k)) :
    Calls Try.prog 32 #[.map (some b)] w fun e w' => ∃ v, e = .returned v ∧ OwnL tCf w' w.heap.size v (toldL bad) ∧ Below w.heap.size w w' := by
  have HM := Lib.hid h
  have HV := Lib.hid hv
  have HKW : Hid (∀ k ∈ srt (bad.map (·.1)), I64 k) := Lib.hid (fun k hk => by
    obtain ⟨x, hx, rfl⟩ := List.mem_map.1 (srt_mem.1 hk)
    exact h.oks x hx)
  have HC := Lib.hid (sortedII w.heap.size b bad (w.alloc (.cells #[.map (some b)] 68)) (by simp) (by rw [blk_cells (blk_new w (.cells #[.map (some b)] 68)) 0]; rfl) (h.keep (Below.heap_alloc w _ _ h.lt)) (by omega))
  have hsl : (srt (bad.map (·.1))).length ≤ 1000 := by rw [srt_len, List.length_map]; exact hl
  obtain ⟨i0, hi, hz0, hz1, hz2⟩ := info_parts infoCf
  clear h hv
  unfold toldL
  obtain ⟨ks, hks⟩ : ∃ ks, srt (bad.map (·.1)) = ks := ⟨_, rfl⟩
  rw [hks] at HKW hsl ⊢
  have HKE := Lib.hid hks
  clear hks
  go_enter Try.func32, Try.ntmps32
  go_wp2_with fail
  refine (keysfII (some b) w).mono ?_
  rintro en w1 ⟨rfl, rfl⟩
  go_wp2_with fail
  refine HC.out.mono ?_
  rintro en w2 ⟨v, rfl, ho, hb⟩
  rw [HKE.out] at ho
  have HB2 := Lib.hid (belows_then ((Below.refl w.heap.size w).alloc (Nat.le_refl _) (.cells #[.map (some b)] 68)) (by simp) hb)
  obtain ⟨ka, kc, rfl, _, _, hks⟩ := ho.slice
  have HKS := Lib.hid hks
  clear ho hb hks HC
  go_wp2_with fail
  go_loopw [3, 10] (fun vo vi wr => ∃ (n : Nat) (vx : Value), vx = vo ∧ n ≤ ks.length ∧ vi = .int .i64 n ∧ OwnL tCf wr w2.heap.size vx ((ks.take n).map (fun k => (at0 bad k, k))) ∧ Below w.heap.size w wr ∧ Below w2.heap.size w2 wr) (fun _ vi _ => ks.length - (intOf vi).toNat)
  case atStart => exact ⟨0, _, rfl, Nat.zero_le _, rfl, OwnL.nil _ _, HB2.out, Below.refl _ _⟩
  case round =>
    obtain ⟨n, vo, rfl, hn, rfl, ho, hb, hb2⟩ := hrel
    have HO := Lib.hid ho
    have HB := Lib.hid hb
    have HBB := Lib.hid hb2
    clear ho hb hb2
    by_cases hlt : n < ks.length
    · obtain ⟨ad, rfl, hadl, hc0⟩ := int_at (Sl.keep (fun k hk _ => HBB.out.block k hk) HKS.out) n hlt
      have HK := Lib.hid (HKW.out ks[n] (List.getElem_mem hlt))
      have HTK : Hid ((ks.take (n + 1)).map (fun k => (at0 bad k, k)) = (ks.take n).map (fun k => (at0 bad k, k)) ++ [(at0 bad ks[n], ks[n])]) := Lib.hid (by rw [List.take_succ_eq_append_getElem hlt, List.map_append]; rfl)
      have hnum : ((ks.take n).map (fun k => (at0 bad k, k))).length ≤ 1000 := by rw [List.length_map, List.length_take]; omega
      have HVK := Lib.hid (HV.out ks[n])
      have hlk := lookI HM.out Try.underlying68 HK.out wr (HB.out.block b HM.out.lt)
      generalize ks[n] = k at *
      generalize at0 bad k = v at *
      have HOA := Lib.hid (HO.out.alloc (.cells #[.int .i64 v, .int .i64 k] 64))
      have HBA := Lib.hid (HB.out.alloc HB.out.size (.cells #[.int .i64 v, .int .i64 k] 64))
      have HBA2 := Lib.hid (HBB.out.alloc HBB.out.size (.cells #[.int .i64 v, .int .i64 k] 64))
      have HSL : Hid (Sl tCf (wr.alloc (.cells #[.int .i64 v, .int .i64 k] 64)) (fun kk => some kk ≠ vo.ownBlock ∧ kk < (wr.alloc (.cells #[.int .i64 v, .int .i64 k] 64)).heap.size) (some ⟨wr.heap.size, 0, none⟩) [(v, k)]) :=
        Lib.hid (sl_one2 tCf (x := (v, k)) rfl (blk_new wr _) ⟨fun e => by have := (HO.out.lt _ e.symm).2; omega, by simp⟩ (cf_mk (v, k) HVK.out HK.out))
      have h63 : ((ks.take n).map (fun k => (at0 bad k, k))).length + [((v, k) : Int × Int)].length ≤ maxLen := by simp only [List.length_cons, List.length_nil]; unfold maxLen; omega
      have hby : (((ks.take n).map (fun k => (at0 bad k, k))).length + [((v, k) : Int × Int)].length) * 16 ≤ 140737488355328 := by simp only [List.length_cons, List.length_nil]; omega
      go_wp2_with (at_builtin; refine wp_app (T := tCf) rfl _ _ 38 rfl i0 (.agg #[.int .i64 0, .int .i64 0]) 16 Try.underlying38 hi hz0 hz1 hz2 rfl (by decide) cf_one w2.heap.size vo ((ks.take n).map (fun k => (at0 bad k, k))) rfl HOA.out ⟨wr.heap.size, 0, none⟩ 1 [(v, k)] rfl HSL.out h63 hby HBA2.out.size ?_; intro v3 w3 hown hg hnil hat; have HO3 := Lib.hid hown; have HB4 := Lib.hid (Below.grown HBA2.out hg HBA2.out.size (fun k e => (HOA.out.lt k e).1)); have HB3 := Lib.hid (Below.grown HBA.out hg HBA.out.size (fun k e => Nat.le_trans HB2.out.size (HOA.out.lt k e).1)); clear hown hg hnil hat)
      go_roundw
      case rel => exact ⟨n + 1, _, rfl, by omega, by go_num, by rw [HTK.out]; exact HO3.out, HB3.out, HB4.out⟩
      case measure => simp [intOf]; omega
    · have HL : Hid ((ks.take n).map (fun k => (at0 bad k, k)) = ks.map (fun k => (at0 bad k, k))) := Lib.hid (by rw [take_all hn hlt])
      have hown := HO.out
      rw [HL.out] at hown
      have HW := Lib.hid hown
      clear hown
      go_wp2_with fail
      go_ret
      exact ⟨_, rfl, HW.out.mono HB2.out.size, HB.out⟩
end Go.Proofs.Ytogikjnfmcfbmaa
