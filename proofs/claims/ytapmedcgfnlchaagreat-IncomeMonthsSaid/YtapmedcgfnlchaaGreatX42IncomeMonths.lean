/- law 11: the first call is as the document fixes it. -/
import Derived.Test.YtapmedcgfnlchaaGreatX41IncomeMonths
set_option linter.unusedVariables false
set_option linter.unusedSimpArgs false
namespace Go.Proofs.YtapmedcgfnlchaaGreat
open Go.RowKit Go.Maps Go.Deep

def j11 : Jn := ⟨1, 1, 3, ⟨#[]⟩, [⟨100, 5, 0⟩, ⟨400, -9, 0⟩, ⟨500, 4, 0⟩], false⟩
def r11 : List Ac := [⟨100, 1, false⟩, ⟨400, 4, false⟩, ⟨500, 5, false⟩]
theorem j11_chk : chk j11 = 0 := by decide +kernel
theorem fit11 : fitJ 40 [j11] = [j11] := by
  have h1 : postJ [] j11 = 0 := post_mk j11_chk rfl (by simp [takenJ, j11]) (by simp)
  unfold fitJ
  simp only [List.foldl_cons, List.foldl_nil]
  unfold fitStep
  rw [h1]
  rfl
theorem set11 : setR r11 = r11 := by decide +kernel
theorem bal11 : balT [j11] 1 0 5 = ([(100, 5), (400, -9), (500, 4)], 0) := by
  have h1 : accR [j11] 1 0 5 = [(100, 5), (400, -9), (500, 4)] := by
    unfold accR tellS
    have e : accS [] (linesOf [j11] 1 0 5) = [(100, 5), (400, -9), (500, 4)] := by decide +kernel
    rw [e]
    have : srt ([((100 : Int), (5 : Int)), (400, -9), (500, 4)].map (·.1)) = [100, 400, 500] := srt_id (l := [100, 400, 500]) (by simp)
    rw [this]
    decide +kernel
  unfold balT
  rw [h1]
  decide +kernel
theorem inc11 : incM r11 [j11] 1 0 5 = ((9, 4, 5), 0) := by
  rw [incM_is bal11]
  decide +kernel
theorem incI11 : incI r11 (balT [j11] 1 0 5).1 = [(400, 9)] := by rw [bal11]; decide +kernel

set_option maxHeartbeats 8000000 in
set_option maxRecDepth 100000 in
theorem alive11 (w : World) : Calls Tryz.prog 8 #[] w fun e w' => e = .returned (.bool true) ∧ Below w.heap.size w w' := by
  have HA1 : Hid (((((w.alloc (.cells #[.int .i64 100, .int .i64 1, .bool false, .int .i64 400, .int .i64 4, .bool false, .int .i64 500, .int .i64 5, .bool false] 53)).alloc (.cells #[.int .i64 100, .int .i64 5, .int .i64 0, .int .i64 400, .int .i64 (-9), .int .i64 0, .int .i64 500, .int .i64 4, .int .i64 0] 57)).alloc (.cells #[.int .i64 1, .int .i64 1, .int .i64 3, .string ⟨#[]⟩, .slice (some ⟨w.heap.size + 1, 0, none⟩) 3 3, .bool false] 60))).heap[w.heap.size]? = some (.cells #[.int .i64 100, .int .i64 1, .bool false, .int .i64 400, .int .i64 4, .bool false, .int .i64 500, .int .i64 5, .bool false] 53 (0, 0))) := Lib.hid (blk_alloc (blk_alloc (blk_new w (.cells #[.int .i64 100, .int .i64 1, .bool false, .int .i64 400, .int .i64 4, .bool false, .int .i64 500, .int .i64 5, .bool false] 53)) (.cells #[.int .i64 100, .int .i64 5, .int .i64 0, .int .i64 400, .int .i64 (-9), .int .i64 0, .int .i64 500, .int .i64 4, .int .i64 0] 57)) (.cells #[.int .i64 1, .int .i64 1, .int .i64 3, .string ⟨#[]⟩, .slice (some ⟨w.heap.size + 1, 0, none⟩) 3 3, .bool false] 60))
  have HL1 : Hid (((((w.alloc (.cells #[.int .i64 100, .int .i64 1, .bool false, .int .i64 400, .int .i64 4, .bool false, .int .i64 500, .int .i64 5, .bool false] 53)).alloc (.cells #[.int .i64 100, .int .i64 5, .int .i64 0, .int .i64 400, .int .i64 (-9), .int .i64 0, .int .i64 500, .int .i64 4, .int .i64 0] 57)).alloc (.cells #[.int .i64 1, .int .i64 1, .int .i64 3, .string ⟨#[]⟩, .slice (some ⟨w.heap.size + 1, 0, none⟩) 3 3, .bool false] 60))).heap[w.heap.size + 1]? = some (.cells #[.int .i64 100, .int .i64 5, .int .i64 0, .int .i64 400, .int .i64 (-9), .int .i64 0, .int .i64 500, .int .i64 4, .int .i64 0] 57 (0, 0))) := Lib.hid (by
    have := blk_alloc (blk_new (w.alloc (.cells #[.int .i64 100, .int .i64 1, .bool false, .int .i64 400, .int .i64 4, .bool false, .int .i64 500, .int .i64 5, .bool false] 53)) (.cells #[.int .i64 100, .int .i64 5, .int .i64 0, .int .i64 400, .int .i64 (-9), .int .i64 0, .int .i64 500, .int .i64 4, .int .i64 0] 57)) (.cells #[.int .i64 1, .int .i64 1, .int .i64 3, .string ⟨#[]⟩, .slice (some ⟨w.heap.size + 1, 0, none⟩) 3 3, .bool false] 60)
    simpa using this)
  have HJ1 : Hid (((((w.alloc (.cells #[.int .i64 100, .int .i64 1, .bool false, .int .i64 400, .int .i64 4, .bool false, .int .i64 500, .int .i64 5, .bool false] 53)).alloc (.cells #[.int .i64 100, .int .i64 5, .int .i64 0, .int .i64 400, .int .i64 (-9), .int .i64 0, .int .i64 500, .int .i64 4, .int .i64 0] 57)).alloc (.cells #[.int .i64 1, .int .i64 1, .int .i64 3, .string ⟨#[]⟩, .slice (some ⟨w.heap.size + 1, 0, none⟩) 3 3, .bool false] 60))).heap[w.heap.size + 2]? = some (.cells #[.int .i64 1, .int .i64 1, .int .i64 3, .string ⟨#[]⟩, .slice (some ⟨w.heap.size + 1, 0, none⟩) 3 3, .bool false] 60 (0, 0))) := Lib.hid (by
    have := blk_new ((w.alloc (.cells #[.int .i64 100, .int .i64 1, .bool false, .int .i64 400, .int .i64 4, .bool false, .int .i64 500, .int .i64 5, .bool false] 53)).alloc (.cells #[.int .i64 100, .int .i64 5, .int .i64 0, .int .i64 400, .int .i64 (-9), .int .i64 0, .int .i64 500, .int .i64 4, .int .i64 0] 57)) (.cells #[.int .i64 1, .int .i64 1, .int .i64 3, .string ⟨#[]⟩, .slice (some ⟨w.heap.size + 1, 0, none⟩) 3 3, .bool false] 60)
    simpa using this)
  have HBA := Lib.hid ((((Below.refl w.heap.size w).alloc (Nat.le_refl _) (.cells #[.int .i64 100, .int .i64 1, .bool false, .int .i64 400, .int .i64 4, .bool false, .int .i64 500, .int .i64 5, .bool false] 53)).alloc (by simp) (.cells #[.int .i64 100, .int .i64 5, .int .i64 0, .int .i64 400, .int .i64 (-9), .int .i64 0, .int .i64 500, .int .i64 4, .int .i64 0] 57)).alloc (by simp; omega) (.cells #[.int .i64 1, .int .i64 1, .int .i64 3, .string ⟨#[]⟩, .slice (some ⟨w.heap.size + 1, 0, none⟩) 3 3, .bool false] 60))
  have HSA : Hid (Sl tAc (((w.alloc (.cells #[.int .i64 100, .int .i64 1, .bool false, .int .i64 400, .int .i64 4, .bool false, .int .i64 500, .int .i64 5, .bool false] 53)).alloc (.cells #[.int .i64 100, .int .i64 5, .int .i64 0, .int .i64 400, .int .i64 (-9), .int .i64 0, .int .i64 500, .int .i64 4, .int .i64 0] 57)).alloc (.cells #[.int .i64 1, .int .i64 1, .int .i64 3, .string ⟨#[]⟩, .slice (some ⟨w.heap.size + 1, 0, none⟩) 3 3, .bool false] 60)) (fun _ => True) (some ⟨w.heap.size, 0, none⟩) r11) := Lib.hid (sl_block r11 [acs ⟨100, 1, false⟩, acs ⟨400, 4, false⟩, acs ⟨500, 5, false⟩] rfl (by simp; rfl) HA1.out trivial (fun i c x hi hx => by
    match i, hi, hx with
    | 0, hi, hx => simp [r11] at hi hx; subst hi; subst hx; exact ac_mk _ (by decide) (by decide)
    | 1, hi, hx => simp [r11] at hi hx; subst hi; subst hx; exact ac_mk _ (by decide) (by decide)
    | 2, hi, hx => simp [r11] at hi hx; subst hi; subst hx; exact ac_mk _ (by decide) (by decide)
    | i + 3, hi, hx => simp at hi))
  have HSL : Hid (Sl tLn (((w.alloc (.cells #[.int .i64 100, .int .i64 1, .bool false, .int .i64 400, .int .i64 4, .bool false, .int .i64 500, .int .i64 5, .bool false] 53)).alloc (.cells #[.int .i64 100, .int .i64 5, .int .i64 0, .int .i64 400, .int .i64 (-9), .int .i64 0, .int .i64 500, .int .i64 4, .int .i64 0] 57)).alloc (.cells #[.int .i64 1, .int .i64 1, .int .i64 3, .string ⟨#[]⟩, .slice (some ⟨w.heap.size + 1, 0, none⟩) 3 3, .bool false] 60)) (fun _ => True) (some ⟨w.heap.size + 1, 0, none⟩) j11.lines) := Lib.hid (sl_block j11.lines [[.int .i64 100, .int .i64 5, .int .i64 0], [.int .i64 400, .int .i64 (-9), .int .i64 0], [.int .i64 500, .int .i64 4, .int .i64 0]] rfl (by simp; rfl) HL1.out trivial (fun i c x hi hx => by
    match i, hi, hx with
    | 0, hi, hx => simp [j11] at hi hx; subst hi; subst hx; exact ln_mk _ (by decide) (by decide) (by decide)
    | 1, hi, hx => simp [j11] at hi hx; subst hi; subst hx; exact ln_mk _ (by decide) (by decide) (by decide)
    | 2, hi, hx => simp [j11] at hi hx; subst hi; subst hx; exact ln_mk _ (by decide) (by decide) (by decide)
    | i + 3, hi, hx => simp at hi))
  have HSJ : Hid (Sl tJn (((w.alloc (.cells #[.int .i64 100, .int .i64 1, .bool false, .int .i64 400, .int .i64 4, .bool false, .int .i64 500, .int .i64 5, .bool false] 53)).alloc (.cells #[.int .i64 100, .int .i64 5, .int .i64 0, .int .i64 400, .int .i64 (-9), .int .i64 0, .int .i64 500, .int .i64 4, .int .i64 0] 57)).alloc (.cells #[.int .i64 1, .int .i64 1, .int .i64 3, .string ⟨#[]⟩, .slice (some ⟨w.heap.size + 1, 0, none⟩) 3 3, .bool false] 60)) (fun _ => True) (some ⟨w.heap.size + 2, 0, none⟩) [j11]) :=
    Lib.hid (sl_oneJ (j := j11) (a := some ⟨w.heap.size + 1, 0, none⟩) (cap := 3) HJ1.out trivial (jn_mk j11 (by decide) (by decide) (by decide) (by decide) HSL.out (by decide) (by decide) (by rw [line_bytes]; decide)))
  go_enter Tryz.func8, Tryz.ntmps8
  go_wp2_with fail
  refine (set_any r11 (some ⟨w.heap.size, 0, none⟩) 3 [j11] (some ⟨w.heap.size + 2, 0, none⟩) 1 _ HSA.out (by decide) HSJ.out (by decide)).mono ?_
  rintro en w1 ⟨c, g, ra, fa, ga, rc, fc, gc, mb, rfl, hc, hg, _, _, hb⟩
  rw [fit11] at hg
  rw [set11] at hc
  have HC := Lib.hid hc
  have HG := Lib.hid hg
  have HB1 := Lib.hid (belows_then HBA.out HBA.out.size hb)
  have hgood : GoodJ [j11] := by
    have := (fit_val 40 [j11]).good
    rwa [fit11] at this
  clear hc hg hb HBA HA1 HL1 HJ1 HSA HSJ HSL
  generalize (setR r11).length = nr at *
  generalize (fitJ 40 [j11]).length = nj at *
  go_wp2_with fail
  refine (iMake_any HC.out HG.out (by decide) hgood 1 0 5 (by decide) (by decide) inc11).mono ?_
  rintro en w2 ⟨v1, v2, rfl, h0, _, hb⟩
  obtain ⟨ho1, ho2⟩ := h0 rfl
  rw [incI11] at ho1
  obtain ⟨a1, c1, rfl, _, _, hs1⟩ := ho1.slice
  obtain ⟨a2, c2, rfl, _, _, _⟩ := ho2.slice
  obtain ⟨ad, hae, _, hadl, hc0, hc1, _, _⟩ := bal_at hs1 0 (by simp)
  subst hae
  have e1 : ad.add (0 * 2) = ad := by unfold Addr.add; split <;> simp_all
  rw [e1] at hc0 hc1
  have HB2 := Lib.hid (belows_then HB1.out HB1.out.size hb)
  generalize (incO r11 (balT [j11] 1 0 5).1).length = n2 at *
  have hc1' : w2.cell? ⟨ad.block, ad.off + 1, none⟩ = some (.int .i64 9) := hc1
  clear hb HC HG HB1 ho1 ho2 h0 hs1 hc1 e1
  have HBF := Lib.hid (HB2.out.alloc HB2.out.size (.cells #[.slice (some ad) 1 c1, .slice a2 n2 c2, .int .i64 9, .int .i64 4, .int .i64 5] 38))
  simp only [List.length_cons, List.length_nil, Nat.zero_add]
  go_wp2_with fail
  go_ret
  exact ⟨rfl, HBF.out⟩
end Go.Proofs.YtapmedcgfnlchaaGreat
