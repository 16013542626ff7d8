/- GroupPairs: what two members have with each other, on both sides alike, is in no balance, and takes nothing apart. -/
import Derived.Test.YtgggpaacagbmcaaGreatX06GroupPairs
set_option linter.unusedVariables false
set_option linter.unusedSimpArgs false
namespace Go.Proofs.YtgggpaacagbmcaaGreat
open Go.RowKit Go.Maps Go.Deep

theorem mG_wf {e : Int} (h : I64 e) : (mG e).wf := ⟨h, show I64 10000 from by decide, show I64 1000000 from by decide, show I64 1000000 from by decide, show I64 1000000 from by decide⟩
theorem mG_two {w : World} {b : Nat} (hb : w.heap[b]? = some (.cells #[.int .i64 1, .int .i64 10000, .int .i64 1000000, .int .i64 1000000, .int .i64 1000000, .int .i64 2, .int .i64 10000, .int .i64 1000000, .int .i64 1000000, .int .i64 1000000] 72 (0, 0))) : Sl tMb w (fun _ => True) (some ⟨b, 0, none⟩) [mG 1, mG 2] :=
  sl_block [mG 1, mG 2] [mbC (mG 1), mbC (mG 2)] rfl (by simp; rfl) hb trivial (fun i c x hi hx => by
    match i, hi, hx with
    | 0, hi, hx => simp at hi hx; subst hi; subst hx; exact mb_mk _ (mG_wf (by decide))
    | 1, hi, hx => simp at hi hx; subst hi; subst hx; exact mb_mk _ (mG_wf (by decide))
    | i + 2, hi, hx => simp at hi)

set_option maxHeartbeats 8000000 in
set_option maxRecDepth 100000 in
theorem groupPairs_any (a p : Int) (hp64 : I64 p) (w : World) : Calls Tryz.prog 5 #[.int .i64 a, .int .i64 p] w fun en w' => en = .returned (.bool true) ∧ Below w.heap.size w w' := by
  have HP := Lib.hid hp64
  have HB0 := Lib.hid (Below.refl w.heap.size w)
  clear hp64
  go_enter Tryz.func5, Tryz.ntmps5
  rcases (show a < 1 ∨ 1 ≤ a ∧ (1099511627776 < a ∨ a ≤ 1099511627776) by omega) with h | ⟨h1, h2 | h2⟩
  · skip
    go_wp2_with fail
    refine (alive14 w).mono ?_
    rintro en w2 ⟨rfl, hb⟩
    have HB2 := Lib.hid (belows_then HB0.out HB0.out.size hb)
    clear hb
    go_wp2_with fail
    go_ret
    exact ⟨rfl, HB2.out⟩
  · skip
    go_wp2_with fail
    refine (alive14 w).mono ?_
    rintro en w2 ⟨rfl, hb⟩
    have HB2 := Lib.hid (belows_then HB0.out HB0.out.size hb)
    clear hb
    go_wp2_with fail
    go_ret
    exact ⟨rfl, HB2.out⟩
  · go_wp2_with fail
    cases hmo : monthOk p
    · refine (ref_valid_is p hmo w).mono ?_
      rintro en w1 ⟨rfl, hb⟩
      have HB1 := Lib.hid hb
      clear hb hmo
      go_wp2_with fail
      refine (alive14 w1).mono ?_
      rintro en w2 ⟨rfl, hb⟩
      have HB2 := Lib.hid (belows_then HB1.out HB1.out.size hb)
      clear hb
      go_wp2_with fail
      go_ret
      exact ⟨rfl, HB2.out⟩
    · refine (ref_valid_is p hmo w).mono ?_
      rintro en w1 ⟨rfl, hb⟩
      have HB1 := Lib.hid hb
      have HMO := Lib.hid hmo
      clear hb hmo
      go_wp2_with fail
      refine (alive14 w1).mono ?_
      rintro en w2 ⟨rfl, hb⟩
      have HB2 := Lib.hid (belows_then HB1.out HB1.out.size hb)
      clear hb HB1
      have H12 := Lib.hid (And.intro h1 h2)
      have hneg : IntKind.i64.wrap (-a) = -a := wrap_is (by omega) (by omega)
      have hbA := blk_alloc (blk_alloc (blk_alloc (blk_new w2 (.cells #[.int .i64 1, .int .i64 1, .bool false, .int .i64 2, .int .i64 2, .bool false, .int .i64 3, .int .i64 1, .bool false] 79)) (.cells #[.int .i64 1, .int .i64 a, .int .i64 2, .int .i64 3, .int .i64 (-a), .int .i64 0] 74)) (.cells #[.int .i64 3, .int .i64 a, .int .i64 0, .int .i64 2, .int .i64 (-a), .int .i64 1] 74)) (.cells #[.int .i64 1, .int .i64 1, .int .i64 p, .string ⟨#[]⟩, .slice (some ⟨w2.heap.size + 1, 0, none⟩) 2 2, .bool false, .int .i64 2, .int .i64 2, .int .i64 p, .string ⟨#[]⟩, .slice (some ⟨w2.heap.size + 2, 0, none⟩) 2 2, .bool false] 81)
      have hbL : ((((w2.alloc (.cells #[.int .i64 1, .int .i64 1, .bool false, .int .i64 2, .int .i64 2, .bool false, .int .i64 3, .int .i64 1, .bool false] 79)).alloc (.cells #[.int .i64 1, .int .i64 a, .int .i64 2, .int .i64 3, .int .i64 (-a), .int .i64 0] 74)).alloc (.cells #[.int .i64 3, .int .i64 a, .int .i64 0, .int .i64 2, .int .i64 (-a), .int .i64 1] 74)).alloc (.cells #[.int .i64 1, .int .i64 1, .int .i64 p, .string ⟨#[]⟩, .slice (some ⟨w2.heap.size + 1, 0, none⟩) 2 2, .bool false, .int .i64 2, .int .i64 2, .int .i64 p, .string ⟨#[]⟩, .slice (some ⟨w2.heap.size + 2, 0, none⟩) 2 2, .bool false] 81)).heap[w2.heap.size + 1]? = some (.cells #[.int .i64 1, .int .i64 a, .int .i64 2, .int .i64 3, .int .i64 (-a), .int .i64 0] 74 (0, 0)) := by
        have := blk_alloc (blk_alloc (blk_new (w2.alloc (.cells #[.int .i64 1, .int .i64 1, .bool false, .int .i64 2, .int .i64 2, .bool false, .int .i64 3, .int .i64 1, .bool false] 79)) (.cells #[.int .i64 1, .int .i64 a, .int .i64 2, .int .i64 3, .int .i64 (-a), .int .i64 0] 74)) (.cells #[.int .i64 3, .int .i64 a, .int .i64 0, .int .i64 2, .int .i64 (-a), .int .i64 1] 74)) (.cells #[.int .i64 1, .int .i64 1, .int .i64 p, .string ⟨#[]⟩, .slice (some ⟨w2.heap.size + 1, 0, none⟩) 2 2, .bool false, .int .i64 2, .int .i64 2, .int .i64 p, .string ⟨#[]⟩, .slice (some ⟨w2.heap.size + 2, 0, none⟩) 2 2, .bool false] 81)
        rw [World.size_alloc] at this
        exact this
      have hbM : ((((w2.alloc (.cells #[.int .i64 1, .int .i64 1, .bool false, .int .i64 2, .int .i64 2, .bool false, .int .i64 3, .int .i64 1, .bool false] 79)).alloc (.cells #[.int .i64 1, .int .i64 a, .int .i64 2, .int .i64 3, .int .i64 (-a), .int .i64 0] 74)).alloc (.cells #[.int .i64 3, .int .i64 a, .int .i64 0, .int .i64 2, .int .i64 (-a), .int .i64 1] 74)).alloc (.cells #[.int .i64 1, .int .i64 1, .int .i64 p, .string ⟨#[]⟩, .slice (some ⟨w2.heap.size + 1, 0, none⟩) 2 2, .bool false, .int .i64 2, .int .i64 2, .int .i64 p, .string ⟨#[]⟩, .slice (some ⟨w2.heap.size + 2, 0, none⟩) 2 2, .bool false] 81)).heap[w2.heap.size + 2]? = some (.cells #[.int .i64 3, .int .i64 a, .int .i64 0, .int .i64 2, .int .i64 (-a), .int .i64 1] 74 (0, 0)) := by
        have := blk_alloc (blk_new ((w2.alloc (.cells #[.int .i64 1, .int .i64 1, .bool false, .int .i64 2, .int .i64 2, .bool false, .int .i64 3, .int .i64 1, .bool false] 79)).alloc (.cells #[.int .i64 1, .int .i64 a, .int .i64 2, .int .i64 3, .int .i64 (-a), .int .i64 0] 74)) (.cells #[.int .i64 3, .int .i64 a, .int .i64 0, .int .i64 2, .int .i64 (-a), .int .i64 1] 74)) (.cells #[.int .i64 1, .int .i64 1, .int .i64 p, .string ⟨#[]⟩, .slice (some ⟨w2.heap.size + 1, 0, none⟩) 2 2, .bool false, .int .i64 2, .int .i64 2, .int .i64 p, .string ⟨#[]⟩, .slice (some ⟨w2.heap.size + 2, 0, none⟩) 2 2, .bool false] 81)
        rw [World.size_alloc, World.size_alloc] at this
        exact this
      have hbJ : ((((w2.alloc (.cells #[.int .i64 1, .int .i64 1, .bool false, .int .i64 2, .int .i64 2, .bool false, .int .i64 3, .int .i64 1, .bool false] 79)).alloc (.cells #[.int .i64 1, .int .i64 a, .int .i64 2, .int .i64 3, .int .i64 (-a), .int .i64 0] 74)).alloc (.cells #[.int .i64 3, .int .i64 a, .int .i64 0, .int .i64 2, .int .i64 (-a), .int .i64 1] 74)).alloc (.cells #[.int .i64 1, .int .i64 1, .int .i64 p, .string ⟨#[]⟩, .slice (some ⟨w2.heap.size + 1, 0, none⟩) 2 2, .bool false, .int .i64 2, .int .i64 2, .int .i64 p, .string ⟨#[]⟩, .slice (some ⟨w2.heap.size + 2, 0, none⟩) 2 2, .bool false] 81)).heap[w2.heap.size + 3]? = some (.cells #[.int .i64 1, .int .i64 1, .int .i64 p, .string ⟨#[]⟩, .slice (some ⟨w2.heap.size + 1, 0, none⟩) 2 2, .bool false, .int .i64 2, .int .i64 2, .int .i64 p, .string ⟨#[]⟩, .slice (some ⟨w2.heap.size + 2, 0, none⟩) 2 2, .bool false] 81 (0, 0)) := by
        have := blk_new (((w2.alloc (.cells #[.int .i64 1, .int .i64 1, .bool false, .int .i64 2, .int .i64 2, .bool false, .int .i64 3, .int .i64 1, .bool false] 79)).alloc (.cells #[.int .i64 1, .int .i64 a, .int .i64 2, .int .i64 3, .int .i64 (-a), .int .i64 0] 74)).alloc (.cells #[.int .i64 3, .int .i64 a, .int .i64 0, .int .i64 2, .int .i64 (-a), .int .i64 1] 74)) (.cells #[.int .i64 1, .int .i64 1, .int .i64 p, .string ⟨#[]⟩, .slice (some ⟨w2.heap.size + 1, 0, none⟩) 2 2, .bool false, .int .i64 2, .int .i64 2, .int .i64 p, .string ⟨#[]⟩, .slice (some ⟨w2.heap.size + 2, 0, none⟩) 2 2, .bool false] 81)
        rw [World.size_alloc, World.size_alloc, World.size_alloc] at this
        exact this
      have hbb : Below w2.heap.size w2 ((((w2.alloc (.cells #[.int .i64 1, .int .i64 1, .bool false, .int .i64 2, .int .i64 2, .bool false, .int .i64 3, .int .i64 1, .bool false] 79)).alloc (.cells #[.int .i64 1, .int .i64 a, .int .i64 2, .int .i64 3, .int .i64 (-a), .int .i64 0] 74)).alloc (.cells #[.int .i64 3, .int .i64 a, .int .i64 0, .int .i64 2, .int .i64 (-a), .int .i64 1] 74)).alloc (.cells #[.int .i64 1, .int .i64 1, .int .i64 p, .string ⟨#[]⟩, .slice (some ⟨w2.heap.size + 1, 0, none⟩) 2 2, .bool false, .int .i64 2, .int .i64 2, .int .i64 p, .string ⟨#[]⟩, .slice (some ⟨w2.heap.size + 2, 0, none⟩) 2 2, .bool false] 81)) := ((((Below.refl w2.heap.size w2).alloc (Nat.le_refl _) _).alloc (by simp) _).alloc (by simp; omega) _).alloc (by simp; omega) _
      obtain ⟨wz, hwz⟩ : ∃ x, (((w2.alloc (.cells #[.int .i64 1, .int .i64 1, .bool false, .int .i64 2, .int .i64 2, .bool false, .int .i64 3, .int .i64 1, .bool false] 79)).alloc (.cells #[.int .i64 1, .int .i64 a, .int .i64 2, .int .i64 3, .int .i64 (-a), .int .i64 0] 74)).alloc (.cells #[.int .i64 3, .int .i64 a, .int .i64 0, .int .i64 2, .int .i64 (-a), .int .i64 1] 74)).alloc (.cells #[.int .i64 1, .int .i64 1, .int .i64 p, .string ⟨#[]⟩, .slice (some ⟨w2.heap.size + 1, 0, none⟩) 2 2, .bool false, .int .i64 2, .int .i64 2, .int .i64 p, .string ⟨#[]⟩, .slice (some ⟨w2.heap.size + 2, 0, none⟩) 2 2, .bool false] 81) = x := ⟨_, rfl⟩
      rw [hwz] at hbA hbL hbM hbJ hbb
      have ha64 : I64 a ∧ I64 (-a) := by
        unfold I64 Lit.wf
        simp [IntKind.min, IntKind.max, IntKind.bits, IntKind.signed]
        omega
      have HSA : Hid (Sl tAc wz (fun _ => True) (some ⟨w2.heap.size, 0, none⟩) rG) := Lib.hid (sl_block rG [acs ⟨1, 1, false⟩, acs ⟨2, 2, false⟩, acs ⟨3, 1, false⟩] rfl (by simp; rfl) hbA trivial (fun i c x hi hx => by
        match i, hi, hx with
        | 0, hi, hx => simp [rG] at hi hx; subst hi; subst hx; exact ac_mk _ (by decide) (by decide)
        | 1, hi, hx => simp [rG] at hi hx; subst hi; subst hx; exact ac_mk _ (by decide) (by decide)
        | 2, hi, hx => simp [rG] at hi hx; subst hi; subst hx; exact ac_mk _ (by decide) (by decide)
        | i + 3, hi, hx => simp at hi))
      have HSL : Sl tLn wz (fun _ => True) (some ⟨w2.heap.size + 1, 0, none⟩) (jA a p).lines := sl_block (jA a p).lines [[.int .i64 1, .int .i64 a, .int .i64 2], [.int .i64 3, .int .i64 (-a), .int .i64 0]] rfl (by simp; rfl) hbL trivial (fun i c x hi hx => by
        match i, hi, hx with
        | 0, hi, hx => simp [jA] at hi hx; subst hi; subst hx; exact ln_mk _ (show I64 1 from by decide) ha64.1 (show I64 2 from by decide)
        | 1, hi, hx => simp [jA] at hi hx; subst hi; subst hx; exact ln_mk _ (show I64 3 from by decide) ha64.2 (show I64 0 from by decide)
        | i + 2, hi, hx => simp at hi)
      have HSM : Sl tLn wz (fun _ => True) (some ⟨w2.heap.size + 2, 0, none⟩) (jB a p).lines := sl_block (jB a p).lines [[.int .i64 3, .int .i64 a, .int .i64 0], [.int .i64 2, .int .i64 (-a), .int .i64 1]] rfl (by simp; rfl) hbM trivial (fun i c x hi hx => by
        match i, hi, hx with
        | 0, hi, hx => simp [jB] at hi hx; subst hi; subst hx; exact ln_mk _ (show I64 3 from by decide) ha64.1 (show I64 0 from by decide)
        | 1, hi, hx => simp [jB] at hi hx; subst hi; subst hx; exact ln_mk _ (show I64 2 from by decide) ha64.2 (show I64 1 from by decide)
        | i + 2, hi, hx => simp at hi)
      have HSJ : Hid (Sl tJn wz (fun _ => True) (some ⟨w2.heap.size + 3, 0, none⟩) [jA a p, jB a p]) := Lib.hid (sl_block [jA a p, jB a p] [jcs (jA a p) (some ⟨w2.heap.size + 1, 0, none⟩) 2, jcs (jB a p) (some ⟨w2.heap.size + 2, 0, none⟩) 2] rfl (by simp; rfl) hbJ trivial (fun i c x hi hx => by
        match i, hi, hx with
        | 0, hi, hx => simp at hi hx; subst hi; subst hx; exact jn_mk (jA a p) (show I64 1 from by decide) (show I64 1 from by decide) HP.out (by simp [jA]; decide) HSL (by simp [jA]) (by decide) (by rw [line_bytes]; simp [jA])
        | 1, hi, hx => simp at hi hx; subst hi; subst hx; exact jn_mk (jB a p) (show I64 2 from by decide) (show I64 2 from by decide) HP.out (by simp [jB]; decide) HSM (by simp [jB]) (by decide) (by rw [line_bytes]; simp [jB])
        | i + 2, hi, hx => simp at hi))
      have HBZ := Lib.hid (belows_then HB2.out HB2.out.size hbb)
      have HSET := Lib.hid (set_any rG (some ⟨w2.heap.size, 0, none⟩) 3 [jA a p, jB a p] (some ⟨w2.heap.size + 3, 0, none⟩) 2 wz HSA.out (by decide) HSJ.out (by unfold maxLen; simp))
      rw [fitG h1 h2 HMO.out, setG] at HSET
      have HWZ := Lib.hid hwz
      clear hbA hbL hbM hbJ hbb hwz ha64 HSL HSM HSA HSJ HB2
      go_wp2_with fail
      rw [HWZ.out]
      refine HSET.out.mono ?_
      rintro en w3 ⟨c, g, ra, fa, ga, rc, fc, gc, mb, rfl, hc, hg, _, _, hb⟩
      have HB3 := Lib.hid (belows_then HBZ.out HBZ.out.size hb)
      have HC3 := Lib.hid hc
      have HG3 := Lib.hid hg
      have HV := Lib.hid (valG h1 h2 HMO.out)
      clear hc hg hb HSET HWZ HBZ
      generalize rG.length = nr at *
      generalize [jA a p, jB a p].length = nj at *
      have hab : Below w3.heap.size w3 ((w3.alloc (.cells #[.int .i64 1000000, .int .i64 1000000, .int .i64 1000000] 70)).alloc (.cells #[.int .i64 1, .int .i64 10000, .int .i64 1000000, .int .i64 1000000, .int .i64 1000000, .int .i64 2, .int .i64 10000, .int .i64 1000000, .int .i64 1000000, .int .i64 1000000] 72)) := ((Below.refl w3.heap.size w3).alloc (Nat.le_refl _) _).alloc (by simp) _
      have hbm : ((w3.alloc (.cells #[.int .i64 1000000, .int .i64 1000000, .int .i64 1000000] 70)).alloc (.cells #[.int .i64 1, .int .i64 10000, .int .i64 1000000, .int .i64 1000000, .int .i64 1000000, .int .i64 2, .int .i64 10000, .int .i64 1000000, .int .i64 1000000, .int .i64 1000000] 72)).heap[w3.heap.size + 1]? = some (.cells #[.int .i64 1, .int .i64 10000, .int .i64 1000000, .int .i64 1000000, .int .i64 1000000, .int .i64 2, .int .i64 10000, .int .i64 1000000, .int .i64 1000000, .int .i64 1000000] 72 (0, 0)) := by
        have := blk_new (w3.alloc (.cells #[.int .i64 1000000, .int .i64 1000000, .int .i64 1000000] 70)) (.cells #[.int .i64 1, .int .i64 10000, .int .i64 1000000, .int .i64 1000000, .int .i64 1000000, .int .i64 2, .int .i64 10000, .int .i64 1000000, .int .i64 1000000, .int .i64 1000000] 72)
        rw [World.size_alloc] at this
        exact this
      have HZM := Lib.hid hbm
      have HC4 := Lib.hid (HC3.out.below hab)
      have HG4 := Lib.hid (HG3.out.below hab)
      have HB4 := Lib.hid (belows_then HB3.out HB3.out.size hab)
      have HM4 := Lib.hid (mG_two hbm)
      have HMK := Lib.hid (grMake_any HC4.out HG4.out HV.out (by simp) p HP.out [mG 1, mG 2] (some ⟨w3.heap.size + 1, 0, none⟩) 2 HM4.out (by unfold maxLen; simp))
      rw [makG h1 h2 HMO.out, show [mG 1, mG 2].length = 2 from rfl] at HMK
      clear hab hbm HC3 HG3 HB3
      go_wp2_with fail
      refine HMK.out.mono ?_
      rintro en w4 ⟨v4, rfl, ho, hb⟩
      obtain ⟨xa1, xc1, rfl, _, _, _⟩ := ho.slice
      have HC5 := Lib.hid (HC4.out.below hb)
      have HG5 := Lib.hid (HG4.out.below hb)
      have HZM5 := Lib.hid (blk_below HZM.out hb)
      have HB5 := Lib.hid (belows_then HB4.out HB4.out.size hb)
      have hx5 := blk_new w4 (.cells #[.slice xa1 grp0.bal.length xc1, .int .i64 grp0.plug, .int .i64 grp0.out, .int .i64 grp0.oth, .int .i64 grp0.owned, .int .i64 grp0.owed, .int .i64 grp0.own] 51)
      have hab : Below w4.heap.size w4 (w4.alloc (.cells #[.slice xa1 grp0.bal.length xc1, .int .i64 grp0.plug, .int .i64 grp0.out, .int .i64 grp0.oth, .int .i64 grp0.owned, .int .i64 grp0.owed, .int .i64 grp0.own] 51)) := (Below.refl _ _).alloc (Nat.le_refl _) _
      obtain ⟨w5, hw5⟩ : ∃ x, w4.alloc (.cells #[.slice xa1 grp0.bal.length xc1, .int .i64 grp0.plug, .int .i64 grp0.out, .int .i64 grp0.oth, .int .i64 grp0.owned, .int .i64 grp0.owed, .int .i64 grp0.own] 51) = x := ⟨_, rfl⟩
      rw [hw5] at hx5 hab
      have HX5 := Lib.hid hx5
      have HC6 := Lib.hid (HC5.out.below hab)
      have HG6 := Lib.hid (HG5.out.below hab)
      have HZM6 := Lib.hid (blk_below HZM5.out hab)
      have HB6 := Lib.hid (belows_then HB5.out HB5.out.size hab)
      have HW5 := Lib.hid hw5
      have hinn := innG h1 h2 HMO.out
      have HIN := Lib.hid (grInnerF_any (mc := 2) (show grpB [mG 1, mG 2] = true by decide +kernel) HMO.out HP.out (mG_two HZM6.out) HG6.out (by simp) HV.out.good lG hinn.1 (by decide))
      rw [hinn.2, show [mG 1, mG 2].length = 2 from rfl] at HIN
      clear ho hb hx5 hab hw5 hinn HMK HC4 HG4 HB4 HM4 HZM HC5 HG5 HZM5 HB5
      simp only
      go_wp2_with fail
      rw [HW5.out]
      refine HIN.out.mono ?_
      rintro en w6 ⟨v6, rfl, ho, hb⟩
      obtain ⟨ya1, yc1, rfl, _, _, _⟩ := ho.slice
      have HX6 := Lib.hid (blk_below HX5.out hb)
      have HZM7 := Lib.hid (blk_below HZM6.out hb)
      have HC7 := Lib.hid (HC6.out.below hb)
      have HG7 := Lib.hid (HG6.out.below hb)
      have HB7 := Lib.hid (belows_then HB6.out HB6.out.size hb)
      have hzc := blk_cells HZM7.out
      have hzl := blk_lt HZM7.out
      have hab : Below w6.heap.size w6 (w6.alloc (.cells #[.int .i64 1, .int .i64 10000, .int .i64 1000000, .int .i64 1000000, .int .i64 1000000] 72)) := (Below.refl _ _).alloc (Nat.le_refl _) _
      have HMK2 := Lib.hid (grMake_any (HC7.out.below hab) (HG7.out.below hab) HV.out (by simp) p HP.out [mG 1] (some ⟨w6.heap.size, 0, none⟩) 1 (mb_block (m := mG 1) (blk_new w6 (.cells #[.int .i64 1, .int .i64 10000, .int .i64 1000000, .int .i64 1000000, .int .i64 1000000] 72)) (mG_wf (by decide))) (by unfold maxLen; simp))
      rw [makG0 h1 h2 HMO.out, show [mG 1].length = 1 from rfl] at HMK2
      have HX7 := Lib.hid (blk_below HX6.out hab)
      have HB8 := Lib.hid (belows_then HB7.out HB7.out.size hab)
      clear ho hb hab HC6 HG6 HB6 HX5 HZM6 HW5 HIN HX6 HC7 HG7 HB7 HZM7
      simp only
      go_wp2_with fail
      refine HMK2.out.mono ?_
      rintro en w7 ⟨v7, rfl, ho, hb⟩
      obtain ⟨za, zc, rfl, _, _, hzs⟩ := ho.slice
      have hX8 := blk_below HX7.out hb
      have HB9 := Lib.hid (belows_then HB8.out HB8.out.size hb)
      have hab : Below w7.heap.size w7 (w7.alloc (.cells #[.slice za 2 zc, .int .i64 0, .int .i64 0, .int .i64 0, .int .i64 0, .int .i64 0, .int .i64 0] 51)) := (Below.refl _ _).alloc (Nat.le_refl _) _
      obtain ⟨ad, rfl, _, hadl, hc0, hc1, _, _⟩ := bal_at (Sl.keep (fun k hk _ => hab.block k hk) hzs) 0 (by simp)
      have hx1 := blk_cells (blk_below hX8 hab)
      have hxl1 := blk_lt (blk_below hX8 hab)
      have HB10 := Lib.hid (belows_then HB9.out HB9.out.size hab)
      have HB10' := HB10
      simp only [Nat.zero_mul, List.getElem_cons_zero] at hc0 hc1
      have hc2 : (w7.alloc (.cells #[.slice (some ad) 2 zc, .int .i64 0, .int .i64 0, .int .i64 0, .int .i64 0, .int .i64 0, .int .i64 0] 51)).cell? ⟨ad.block, ad.off + 1, none⟩ = some (.int .i64 a) := by
        have h := hc1
        have e1 : (ad.add 0).block = ad.block := add_block _ _
        have e2 : (ad.add 0).off = ad.off := by unfold Addr.add; split <;> simp_all
        rw [e1, e2] at h
        exact h
      clear hc0 hc1
      clear ho hb hab HMK2 HX7 HB8 hzs hX8 hzc hzl HB9
      simp only [grp0, List.length_nil] at hx1
      simp only [List.length_cons, List.length_nil, Nat.zero_add, Nat.reduceAdd, grp0]
      go_wp2_with fail
      go_ret
      exact ⟨by first | rfl | simp, HB10.out⟩
theorem groupPairs_row (a0 a1 : Int) (w : World) (w0 : I64 a0) (w1 : I64 a1) : Calls Tryz.prog 5 #[.int .i64 a0, .int .i64 a1] w fun en w' => en = .returned (.bool true) ∧ Below w.heap.size w w' := groupPairs_any a0 a1 w1 w
end Go.Proofs.YtgggpaacagbmcaaGreat
