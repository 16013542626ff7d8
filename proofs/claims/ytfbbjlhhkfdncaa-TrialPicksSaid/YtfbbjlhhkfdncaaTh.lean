/- The first call of law 10 is as the document fixes it. -/
import Derived.Test.YtfbbjlhhkfdncaaTg
import Derived.Test.YtfbbjlhhkfdncaaPl
set_option linter.unusedVariables false
set_option linter.unusedSimpArgs false
namespace Go.Proofs.Ytfbbjlhhkfdncaa
open Go.RowKit Go.Maps

theorem sl_lines2 {w : World} {F : Nat → Prop} {b : Nat} (x y : Ln) (hb : w.heap[b]? = some (.cells #[.int .i64 x.acc, .int .i64 x.amt, .int .i64 x.par, .int .i64 y.acc, .int .i64 y.amt, .int .i64 y.par] 43 (0, 0))) (hF : F b)
    (hx : I64 x.acc ∧ I64 x.amt ∧ I64 x.par) (hy : I64 y.acc ∧ I64 y.amt ∧ I64 y.par) : Sl tLn w F (some ⟨b, 0, none⟩) [x, y] := by
  have hlt : b < w.heap.size := (Array.getElem?_eq_some_iff.1 hb).1
  have hcell := fun o => cell_of_row w b o _ 43 (0, 0) hb
  intro i u hi
  match i, hi with
  | 0, hi =>
    simp at hi; subst hi
    refine ⟨_, [.int .i64 x.acc, .int .i64 x.amt, .int .i64 x.par], rfl, hF, hlt, fun j v hv => ?_, ln_mk x hx.1 hx.2.1 hx.2.2⟩
    match j, hv with
    | 0, hv => simp at hv; subst hv; exact hcell 0
    | 1, hv => simp at hv; subst hv; exact hcell 1
    | 2, hv => simp at hv; subst hv; exact hcell 2
  | 1, hi =>
    simp at hi; subst hi
    refine ⟨_, [.int .i64 y.acc, .int .i64 y.amt, .int .i64 y.par], rfl, hF, hlt, fun j v hv => ?_, ln_mk y hy.1 hy.2.1 hy.2.2⟩
    match j, hv with
    | 0, hv => simp at hv; subst hv; exact hcell 3
    | 1, hv => simp at hv; subst hv; exact hcell 4
    | 2, hv => simp at hv; subst hv; exact hcell 5

def aliveJ : Jn := ⟨1, 1, 3, ⟨#[]⟩, [⟨100, 5, 0⟩, ⟨200, -5, 0⟩], false⟩
theorem alive_chk : chk aliveJ = 0 := by decide +kernel
theorem alive_val : ValJ [aliveJ] := ⟨by simp, by intro x hx; simp at hx; subst hx; exact alive_chk, by
  intro x hx
  simp at hx
  subst hx
  simp [takenJ, aliveJ], by simp⟩
theorem srt_id {l : List Int} (h : l.Pairwise (fun a b => decide (a ≤ b) = true)) : srt l = l := List.mergeSort_of_pairwise h
theorem alive_acc : accS [] (linesOf [aliveJ] 1 0 5) = [(100, 5), (200, -5)] := by decide +kernel
theorem alive_bal : balT [aliveJ] 1 0 5 = ([(100, 5), (200, -5)], 0) := by
  have h1 : accR [aliveJ] 1 0 5 = [(100, 5), (200, -5)] := by
    unfold accR tellS
    rw [alive_acc]
    have : srt ([((100 : Int), (5 : Int)), (200, -5)].map (·.1)) = [100, 200] := srt_id (l := [100, 200]) (by simp)
    rw [this]
    decide +kernel
  unfold balT
  rw [h1]
  decide +kernel

theorem alive_sl (W : World) (c0 : W.heap.size = W.heap.size) : True := trivial
set_option maxHeartbeats 8000000 in
set_option maxRecDepth 100000 in
theorem alive10 (w : World) : Calls Try.prog 19 #[] w fun e w' => e = .returned (.bool true) ∧ Below w.heap.size w w' := by
  have HLB := Lib.hid (blk_alloc (blk_new w (.cells #[.int .i64 100, .int .i64 5, .int .i64 0, .int .i64 200, .int .i64 (-5), .int .i64 0] 43)) (.cells #[.int .i64 1, .int .i64 1, .int .i64 3, .string ⟨#[]⟩, .slice (some ⟨w.heap.size, 0, none⟩) 2 2, .bool false] 31))
  have HJB := Lib.hid (by have := blk_new (w.alloc (.cells #[.int .i64 100, .int .i64 5, .int .i64 0, .int .i64 200, .int .i64 (-5), .int .i64 0] 43)) (.cells #[.int .i64 1, .int .i64 1, .int .i64 3, .string ⟨#[]⟩, .slice (some ⟨w.heap.size, 0, none⟩) 2 2, .bool false] 31); simpa using this : ((w.alloc (.cells #[.int .i64 100, .int .i64 5, .int .i64 0, .int .i64 200, .int .i64 (-5), .int .i64 0] 43)).alloc (.cells #[.int .i64 1, .int .i64 1, .int .i64 3, .string ⟨#[]⟩, .slice (some ⟨w.heap.size, 0, none⟩) 2 2, .bool false] 31)).heap[w.heap.size + 1]? = some (.cells #[.int .i64 1, .int .i64 1, .int .i64 3, .string ⟨#[]⟩, .slice (some ⟨w.heap.size, 0, none⟩) 2 2, .bool false] 31 (0, 0)))
  have HB := Lib.hid (((Below.refl w.heap.size w).alloc (Nat.le_refl _) (.cells #[.int .i64 100, .int .i64 5, .int .i64 0, .int .i64 200, .int .i64 (-5), .int .i64 0] 43)).alloc (by simp) (.cells #[.int .i64 1, .int .i64 1, .int .i64 3, .string ⟨#[]⟩, .slice (some ⟨w.heap.size, 0, none⟩) 2 2, .bool false] 31))
  have HSL : Hid (Sl tJn ((w.alloc (.cells #[.int .i64 100, .int .i64 5, .int .i64 0, .int .i64 200, .int .i64 (-5), .int .i64 0] 43)).alloc (.cells #[.int .i64 1, .int .i64 1, .int .i64 3, .string ⟨#[]⟩, .slice (some ⟨w.heap.size, 0, none⟩) 2 2, .bool false] 31)) (fun _ => True) (some ⟨w.heap.size + 1, 0, none⟩) [aliveJ]) :=
    Lib.hid (sl_oneJ (j := aliveJ) (a := some ⟨w.heap.size, 0, none⟩) (cap := 2) HJB.out trivial (jn_mk aliveJ (by decide) (by decide) (by decide) (by decide) (sl_lines2 ⟨100, 5, 0⟩ ⟨200, -5, 0⟩ HLB.out trivial ⟨by decide, by decide, by decide⟩ ⟨by decide, by decide, by decide⟩) (by decide) (by decide) (by rw [line_bytes]; decide)))
  go_enter Try.func19, Try.ntmps19
  go_wp2_with fail
  refine (lof_yes [aliveJ] (some ⟨w.heap.size + 1, 0, none⟩) 1 _ HSL.out (by simp) alive_val.incJ alive_val.of).mono ?_
  rintro en w2 ⟨g, ga, gc, rfl, hg, hat, hb⟩
  have HB2 := Lib.hid (belows_then HB.out (by simp; omega) hb)
  have HAT := Lib.hid hat
  clear hb hat HLB HJB HSL HB
  go_wp2_with fail
  refine (balances_any HAT.out (by simp) alive_val.good 1 0 5 (by decide) (by decide)).mono ?_
  rintro en w3 ⟨v, rfl, ho, hb⟩
  rw [alive_bal] at ho ⊢
  have HB3 := Lib.hid (belows_then HB2.out HB2.out.size hb)
  have hform := ho.ownF.form
  obtain ⟨oa, oc, rfl, _, _, hos⟩ := ho.slice
  have HOS := Lib.hid hos
  obtain ⟨og, rfl⟩ : ∃ og, oa = some ⟨og, 0, none⟩ := by
    rcases hform with ⟨_, h⟩ | ⟨og, cap, h, _⟩
    · cases h
    · injection h with h
      exact ⟨og, h⟩
  clear ho hb hos hform
  go_wp2_with fail
  refine (tsum_any [(100, 5), (200, -5)] (some ⟨og, 0, none⟩) oc _ HOS.out (by simp)).mono ?_
  rintro en w4 ⟨rfl, hb⟩
  have hadd : addM ([((100 : Int), (5 : Int)), (200, -5)].map (·.2)) = (0, 0) := by decide +kernel
  rw [hadd]
  have HB4 := Lib.hid (belows_then HB3.out HB3.out.size hb)
  obtain ⟨ad, hade, _, hadl, hc0, hc1, _, _⟩ := bal_at (Sl.keep (fun k hk _ => hb.block k hk) HOS.out) 0 (by simp)
  injection hade with hade
  subst hade
  simp [Addr.add] at hc0 hc1 hadl
  clear hb hadd
  go_wp2_with fail
  go_ret
  exact ⟨rfl, HB4.out⟩
end Go.Proofs.Ytfbbjlhhkfdncaa
