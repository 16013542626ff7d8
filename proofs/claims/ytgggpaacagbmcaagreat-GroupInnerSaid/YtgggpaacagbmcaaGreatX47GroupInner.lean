/- law 14: the first call is as the document fixes it. -/
import Derived.Test.YtgggpaacagbmcaaGreatX39GroupInner
import Derived.Test.YtgggpaacagbmcaaGreatX41GroupInner
import Derived.Test.YtgggpaacagbmcaaGreatX14GroupInner
import Derived.Test.YtgggpaacagbmcaaGreatX17GroupInner
import Derived.Test.YtgggpaacagbmcaaGreatX20GroupInner
import Derived.Test.YtgggpaacagbmcaaGreatX04GroupInner
set_option linter.unusedVariables false
set_option linter.unusedSimpArgs false
namespace Go.Proofs.YtgggpaacagbmcaaGreat
open Go.RowKit Go.Maps Go.Deep

def j14 : Jn := ⟨1, 1, 3, ⟨#[]⟩, [⟨100, 8, 0⟩, ⟨300, -8, 0⟩], false⟩
def r14 : List Ac := [⟨100, 1, false⟩, ⟨300, 3, false⟩]
def m14 : Mb := ⟨1, 7500, 1000000, 1000000, 1000000⟩
theorem j14_chk : chk j14 = 0 := by decide +kernel
theorem fit14 : fitJ 40 [j14] = [j14] := by
  have h1 : postJ [] j14 = 0 := post_mk j14_chk rfl (by simp [takenJ, j14]) (by simp)
  unfold fitJ
  simp only [List.foldl_cons, List.foldl_nil]
  unfold fitStep
  rw [h1]
  rfl
theorem val14 : ValJ [j14] := by
  have := fit_val 40 [j14]
  rwa [fit14] at this
theorem set14 : setR r14 = r14 := by decide +kernel
theorem acc14 : accR [j14] 1 0 5 = [(100, 8), (300, -8)] := by
  unfold accR tellS
  have e : accS [] (linesOf [j14] 1 0 5) = [(100, 8), (300, -8)] := by decide +kernel
  rw [e]
  have : srt ([((100 : Int), (8 : Int)), (300, -8)].map (·.1)) = [100, 300] := srt_id (l := [100, 300]) (by simp)
  rw [this]
  decide +kernel
theorem lin14 : linT [m14] [j14] m14.en 5 = (([(100, 8), (300, -8)], 0), 0) := by
  show linT [oneM 1 7500] [j14] 1 5 = _
  rw [lin_one val14, acc14]
  rfl
theorem mem14 : memE r14 [m14] [j14] 5 m14 = 0 ∧ memP r14 [m14] [j14] 5 m14 = ⟨[(100, 8), (300, -8)], 0, 0, -2⟩ := by
  have h2 : trnT r14 m14 [(100, 8), (300, -8)] = (([(100, 8), (300, -8)], 0), 0) := by decide +kernel
  obtain ⟨h, h'⟩ := memE_is lin14 h2 (s := 0) (es := 0) (by decide +kernel) (a := 0) (ea := 0) (by decide +kernel) (b := -8) (eb := 0) (by decide +kernel) (x := -2) (ex := 0) (by decide +kernel)
  exact ⟨h, h' rfl⟩
theorem mak14 : makT r14 [m14] [j14] 5 = (⟨[(100, 8), (300, -8)], 0, 0, -2, 8, 0, 6⟩, 0) := by
  have hg : (grpB [m14] && monthOk 5) = true := by decide +kernel
  unfold makT
  rw [if_pos hg]
  have hm : memsE r14 [m14] [j14] 5 [m14] = 0 := memsE_none r14 [m14] [j14] 5 [m14] (fun m hm => by rw [List.mem_singleton.1 hm]; exact mem14.1)
  have hr : grpT r14 [m14] [j14] 5 = resT r14 ([m14].map (memP r14 [m14] [j14] 5)) := by
    unfold grpT resT
    rw [hm]
    rfl
  rw [hr]
  simp only [List.map_cons, List.map_nil, mem14.2]
  have hB : plusT (([(⟨[(100, 8), (300, -8)], 0, 0, -2⟩ : Part)].map (·.l)).flatten ++ []) = ([(100, 8), (300, -8)], 0) := by
    show plusT [((100 : Int), (8 : Int)), (300, -8)] = _
    exact plus_self (by simp) (by decide +kernel) (by decide +kernel)
  rw [resT_is hB (pl := 0) (e5 := 0) (by decide +kernel) (ou := 0) (e6 := 0) (by decide +kernel) (ot := -2) (e7 := 0) (by decide +kernel) (ow := 8) (e1 := 0) (by decide +kernel) (od := 0) (e2 := 0) (by decide +kernel) (on := 6) (e3 := 0) (by decide +kernel)]
  rfl
theorem mb_block {w : World} {b : Nat} {m : Mb} (hb : w.heap[b]? = some (.cells #[.int .i64 m.en, .int .i64 m.sh, .int .i64 m.cl, .int .i64 m.av, .int .i64 m.ol] 72 (0, 0))) (hw : m.wf) : Sl tMb w (fun _ => True) (some ⟨b, 0, none⟩) [m] :=
  sl_block [m] [mbC m] rfl (by simp; rfl) hb trivial (fun i c x hi hx => by
    match i, hi, hx with
    | 0, hi, hx => simp at hi hx; subst hi; subst hx; exact mb_mk _ hw
    | i + 1, hi, hx => simp at hi)

set_option maxHeartbeats 8000000 in
set_option maxRecDepth 100000 in
theorem alive14 (w : World) : Calls Tryz.prog 7 #[] w fun e w' => e = .returned (.bool true) ∧ Below w.heap.size w w' := by
  have HA1 : Hid (((((w.alloc (.cells #[.int .i64 100, .int .i64 1, .bool false, .int .i64 300, .int .i64 3, .bool false] 79)).alloc (.cells #[.int .i64 100, .int .i64 8, .int .i64 0, .int .i64 300, .int .i64 (-8), .int .i64 0] 74)).alloc (.cells #[.int .i64 1, .int .i64 1, .int .i64 3, .string ⟨#[]⟩, .slice (some ⟨w.heap.size + 1, 0, none⟩) 2 2, .bool false] 81))).heap[w.heap.size]? = some (.cells #[.int .i64 100, .int .i64 1, .bool false, .int .i64 300, .int .i64 3, .bool false] 79 (0, 0))) := Lib.hid (blk_alloc (blk_alloc (blk_new w (.cells #[.int .i64 100, .int .i64 1, .bool false, .int .i64 300, .int .i64 3, .bool false] 79)) (.cells #[.int .i64 100, .int .i64 8, .int .i64 0, .int .i64 300, .int .i64 (-8), .int .i64 0] 74)) (.cells #[.int .i64 1, .int .i64 1, .int .i64 3, .string ⟨#[]⟩, .slice (some ⟨w.heap.size + 1, 0, none⟩) 2 2, .bool false] 81))
  have HL1 : Hid (((((w.alloc (.cells #[.int .i64 100, .int .i64 1, .bool false, .int .i64 300, .int .i64 3, .bool false] 79)).alloc (.cells #[.int .i64 100, .int .i64 8, .int .i64 0, .int .i64 300, .int .i64 (-8), .int .i64 0] 74)).alloc (.cells #[.int .i64 1, .int .i64 1, .int .i64 3, .string ⟨#[]⟩, .slice (some ⟨w.heap.size + 1, 0, none⟩) 2 2, .bool false] 81))).heap[w.heap.size + 1]? = some (.cells #[.int .i64 100, .int .i64 8, .int .i64 0, .int .i64 300, .int .i64 (-8), .int .i64 0] 74 (0, 0))) := Lib.hid (by
    have := blk_alloc (blk_new (w.alloc (.cells #[.int .i64 100, .int .i64 1, .bool false, .int .i64 300, .int .i64 3, .bool false] 79)) (.cells #[.int .i64 100, .int .i64 8, .int .i64 0, .int .i64 300, .int .i64 (-8), .int .i64 0] 74)) (.cells #[.int .i64 1, .int .i64 1, .int .i64 3, .string ⟨#[]⟩, .slice (some ⟨w.heap.size + 1, 0, none⟩) 2 2, .bool false] 81)
    simpa using this)
  have HJ1 : Hid (((((w.alloc (.cells #[.int .i64 100, .int .i64 1, .bool false, .int .i64 300, .int .i64 3, .bool false] 79)).alloc (.cells #[.int .i64 100, .int .i64 8, .int .i64 0, .int .i64 300, .int .i64 (-8), .int .i64 0] 74)).alloc (.cells #[.int .i64 1, .int .i64 1, .int .i64 3, .string ⟨#[]⟩, .slice (some ⟨w.heap.size + 1, 0, none⟩) 2 2, .bool false] 81))).heap[w.heap.size + 2]? = some (.cells #[.int .i64 1, .int .i64 1, .int .i64 3, .string ⟨#[]⟩, .slice (some ⟨w.heap.size + 1, 0, none⟩) 2 2, .bool false] 81 (0, 0))) := Lib.hid (by
    have := blk_new ((w.alloc (.cells #[.int .i64 100, .int .i64 1, .bool false, .int .i64 300, .int .i64 3, .bool false] 79)).alloc (.cells #[.int .i64 100, .int .i64 8, .int .i64 0, .int .i64 300, .int .i64 (-8), .int .i64 0] 74)) (.cells #[.int .i64 1, .int .i64 1, .int .i64 3, .string ⟨#[]⟩, .slice (some ⟨w.heap.size + 1, 0, none⟩) 2 2, .bool false] 81)
    simpa using this)
  have HBA := Lib.hid ((((Below.refl w.heap.size w).alloc (Nat.le_refl _) (.cells #[.int .i64 100, .int .i64 1, .bool false, .int .i64 300, .int .i64 3, .bool false] 79)).alloc (by simp) (.cells #[.int .i64 100, .int .i64 8, .int .i64 0, .int .i64 300, .int .i64 (-8), .int .i64 0] 74)).alloc (by simp; omega) (.cells #[.int .i64 1, .int .i64 1, .int .i64 3, .string ⟨#[]⟩, .slice (some ⟨w.heap.size + 1, 0, none⟩) 2 2, .bool false] 81))
  have HSA : Hid (Sl tAc (((w.alloc (.cells #[.int .i64 100, .int .i64 1, .bool false, .int .i64 300, .int .i64 3, .bool false] 79)).alloc (.cells #[.int .i64 100, .int .i64 8, .int .i64 0, .int .i64 300, .int .i64 (-8), .int .i64 0] 74)).alloc (.cells #[.int .i64 1, .int .i64 1, .int .i64 3, .string ⟨#[]⟩, .slice (some ⟨w.heap.size + 1, 0, none⟩) 2 2, .bool false] 81)) (fun _ => True) (some ⟨w.heap.size, 0, none⟩) r14) := Lib.hid (sl_block r14 [acs ⟨100, 1, false⟩, acs ⟨300, 3, false⟩] rfl (by simp; rfl) HA1.out trivial (fun i c x hi hx => by
    match i, hi, hx with
    | 0, hi, hx => simp [r14] at hi hx; subst hi; subst hx; exact ac_mk _ (by decide) (by decide)
    | 1, hi, hx => simp [r14] at hi hx; subst hi; subst hx; exact ac_mk _ (by decide) (by decide)
    | i + 2, hi, hx => simp at hi))
  have HSL : Hid (Sl tLn (((w.alloc (.cells #[.int .i64 100, .int .i64 1, .bool false, .int .i64 300, .int .i64 3, .bool false] 79)).alloc (.cells #[.int .i64 100, .int .i64 8, .int .i64 0, .int .i64 300, .int .i64 (-8), .int .i64 0] 74)).alloc (.cells #[.int .i64 1, .int .i64 1, .int .i64 3, .string ⟨#[]⟩, .slice (some ⟨w.heap.size + 1, 0, none⟩) 2 2, .bool false] 81)) (fun _ => True) (some ⟨w.heap.size + 1, 0, none⟩) j14.lines) := Lib.hid (sl_block j14.lines [[.int .i64 100, .int .i64 8, .int .i64 0], [.int .i64 300, .int .i64 (-8), .int .i64 0]] rfl (by simp; rfl) HL1.out trivial (fun i c x hi hx => by
    match i, hi, hx with
    | 0, hi, hx => simp [j14] at hi hx; subst hi; subst hx; exact ln_mk _ (by decide) (by decide) (by decide)
    | 1, hi, hx => simp [j14] at hi hx; subst hi; subst hx; exact ln_mk _ (by decide) (by decide) (by decide)
    | i + 2, hi, hx => simp at hi))
  have HSJ : Hid (Sl tJn (((w.alloc (.cells #[.int .i64 100, .int .i64 1, .bool false, .int .i64 300, .int .i64 3, .bool false] 79)).alloc (.cells #[.int .i64 100, .int .i64 8, .int .i64 0, .int .i64 300, .int .i64 (-8), .int .i64 0] 74)).alloc (.cells #[.int .i64 1, .int .i64 1, .int .i64 3, .string ⟨#[]⟩, .slice (some ⟨w.heap.size + 1, 0, none⟩) 2 2, .bool false] 81)) (fun _ => True) (some ⟨w.heap.size + 2, 0, none⟩) [j14]) :=
    Lib.hid (sl_oneJ (j := j14) (a := some ⟨w.heap.size + 1, 0, none⟩) (cap := 2) HJ1.out trivial (jn_mk j14 (by decide) (by decide) (by decide) (by decide) HSL.out (by decide) (by decide) (by rw [line_bytes]; decide)))
  go_enter Tryz.func7, Tryz.ntmps7
  go_wp2_with fail
  refine (set_any r14 (some ⟨w.heap.size, 0, none⟩) 2 [j14] (some ⟨w.heap.size + 2, 0, none⟩) 1 _ HSA.out (by decide) HSJ.out (by decide)).mono ?_
  rintro en w1 ⟨c, g, ra, fa, ga, rc, fc, gc, mb, rfl, hc, hg, _, _, hb⟩
  rw [fit14] at hg
  rw [set14] at hc
  have HB1 := Lib.hid (belows_then HBA.out HBA.out.size hb)
  have hab : Below w1.heap.size w1 ((w1.alloc (.cells #[.int .i64 1000000, .int .i64 1000000, .int .i64 1000000] 70)).alloc (.cells #[.int .i64 1, .int .i64 7500, .int .i64 1000000, .int .i64 1000000, .int .i64 1000000] 72)) := ((Below.refl w1.heap.size w1).alloc (Nat.le_refl _) (.cells #[.int .i64 1000000, .int .i64 1000000, .int .i64 1000000] 70)).alloc (by simp) (.cells #[.int .i64 1, .int .i64 7500, .int .i64 1000000, .int .i64 1000000, .int .i64 1000000] 72)
  have HC := Lib.hid (hc.below hab)
  have HG := Lib.hid (hg.below hab)
  have HB2 := Lib.hid (belows_then HB1.out HB1.out.size hab)
  have hbm : ((w1.alloc (.cells #[.int .i64 1000000, .int .i64 1000000, .int .i64 1000000] 70)).alloc (.cells #[.int .i64 1, .int .i64 7500, .int .i64 1000000, .int .i64 1000000, .int .i64 1000000] 72)).heap[w1.heap.size + 1]? = some (.cells #[.int .i64 1, .int .i64 7500, .int .i64 1000000, .int .i64 1000000, .int .i64 1000000] 72 (0, 0)) := by have := blk_new (w1.alloc (.cells #[.int .i64 1000000, .int .i64 1000000, .int .i64 1000000] 70)) (.cells #[.int .i64 1, .int .i64 7500, .int .i64 1000000, .int .i64 1000000, .int .i64 1000000] 72); simpa using this
  have HMS : Hid (Sl tMb ((w1.alloc (.cells #[.int .i64 1000000, .int .i64 1000000, .int .i64 1000000] 70)).alloc (.cells #[.int .i64 1, .int .i64 7500, .int .i64 1000000, .int .i64 1000000, .int .i64 1000000] 72)) (fun _ => True) (some ⟨w1.heap.size + 1, 0, none⟩) [m14]) := Lib.hid (mb_block (m := m14) hbm (by unfold Mb.wf m14; decide))
  clear hbm hc hg hb HBA HA1 HL1 HJ1 HSA HSJ HSL hab
  generalize (setR r14).length = nr at *
  generalize (fitJ 40 [j14]).length = nj at *
  go_wp2_with fail
  refine (grMake_any HC.out HG.out val14 (by decide) 5 (by decide) [m14] (some ⟨w1.heap.size + 1, 0, none⟩) 1 HMS.out (by decide)).mono ?_
  rintro en w2 ⟨v, rfl, ho, hb⟩
  rw [mak14] at ho ⊢
  have HB3 := Lib.hid (belows_then HB2.out HB2.out.size hb)
  obtain ⟨ba, bc, rfl, -, -, -⟩ := ho.slice
  have HBF := Lib.hid (HB3.out.alloc HB3.out.size (.cells #[.slice ba 2 bc, .int .i64 0, .int .i64 0, .int .i64 (-2), .int .i64 8, .int .i64 0, .int .i64 6] 51))
  clear ho hb HC HG HB1 HB2 HMS
  simp only [List.length_cons, List.length_nil, Nat.zero_add]
  go_wp2_with fail
  go_ret
  exact ⟨rfl, HBF.out⟩
end Go.Proofs.YtgggpaacagbmcaaGreat


/- The document's balances: may it be asked, all lines. -/
set_option linter.unusedVariables false
set_option linter.unusedSimpArgs false
namespace Go.Proofs.YtgggpaacagbmcaaGreat
open Go.RowKit Go.Maps Go.Deep

theorem Sl.ofLn {w W : World} {la : Option Addr} {xs : List Ln} {F : Nat → Prop} {v : Value} {B : Nat} (h : Sl tLn w F la xs) (hb : Below B w W) (hB : ∀ k, F k → k < B) (hv : ∀ k, v.ownBlock = some k → B ≤ k) : Sl tLn W (fun k => some k ≠ v.ownBlock ∧ k < W.heap.size) la xs := by
  intro i x hx
  obtain ⟨ad, ces, ha, hf, hlt, hc, hr⟩ := h i x hx
  have hs := hb.size
  have hl := hB _ hf
  refine ⟨ad, ces, ha, ⟨fun e => by have := hv _ e.symm; omega, by omega⟩, by omega, fun j u hu => ?_, ?_⟩
  · rw [← hc j u hu]
    exact World.cell?_of_block (w := w) (by rw [add_block, add_block]; exact hb.block _ hl)
  · obtain ⟨rfl, h1, h2, h3⟩ := ln_inv hr
    exact ln_mk _ h1 h2 h3

set_option maxHeartbeats 8000000 in
set_option maxRecDepth 100000 in
theorem r10Lines_any (J : List Jn) (a : Option Addr) (cap : Nat) (e f t : Int) (w : World) {F : Nat → Prop} (hs : Sl tJn w F a J) (hg : GoodJ J) (hl : J.length ≤ 1000) :
    Calls Tryz.prog 19 #[.slice a J.length cap, .int .i64 e, .int .i64 f, .int .i64 t] w fun en w' => ∃ v, en = .returned v ∧ OwnL tLn w' w.heap.size v (linesOf J e f t) ∧ Below w.heap.size w w' := by
  have HS : Hid (Sl tJn w (fun k => k < w.heap.size) a J) := Sl.mono (fun k hk _ => hk) hs
  have HG := Lib.hid hg
  clear hs hg
  obtain ⟨i0, hi, hz0, hz1, hz2⟩ := info_parts infoL
  go_enter Tryz.func19, Tryz.ntmps19
  go_wp2_with fail
  go_loopw [9, 10] (fun vo vi wr => ∃ (n : Nat) (vx : Value), vx = vo ∧ n ≤ J.length ∧ vi = .int .i64 n ∧ OwnL tLn wr w.heap.size vx (linesOf (J.take n) e f t) ∧ Below w.heap.size w wr) (fun _ vi _ => J.length - (Go.RowKit.intOf vi).toNat)
  case atStart => exact ⟨0, _, rfl, Nat.zero_le _, rfl, OwnL.nil _ _, Below.refl _ _⟩
  case round =>
    obtain ⟨n, vo, rfl, hn, rfl, ho, hb⟩ := hrel
    have HO := Lib.hid ho
    have HB := Lib.hid hb
    clear ho hb
    by_cases hlt : n < J.length
    · obtain ⟨ad, la, lc, rfl, _, hadl, hc0, hc1, hc2, hc3, hc4, hc5, hr⟩ := jn_at (Sl.keep (fun k hk _ => HB.out.block k hk) HS.out) n hlt
      have HTK := Lib.hid (linesOf_succ e f t J n hlt)
      have hnum : (linesOf (J.take n) e f t).length ≤ 8000 := linesOf_len (fun x hx => HG.out x (List.mem_of_mem_take hx)) (by rw [List.length_take]; omega) e f t
      have hgx := HG.out _ (List.getElem_mem hlt)
      obtain ⟨b, hcb⟩ : ∃ b, cnt e f t J[n] = b := ⟨_, rfl⟩
      have hcs := cnt_cases hcb
      rw [hcb] at HTK
      generalize J[n] = x at *
      have HLX := Lib.hid (jcs_inv hr).2.2.2.2.1
      clear hr hcb
      rcases hcs with ⟨rfl, h1 | ⟨h1, h2 | ⟨h2, h3 | ⟨h3, h4⟩⟩⟩⟩ | ⟨rfl, h1, h2, h3, h4⟩
      · have HN : Hid (linesOf (J.take (n + 1)) e f t = linesOf (J.take n) e f t) := Lib.hid (by rw [HTK.out]; simp)
        go_wp2_with fail
        go_roundw
        case rel => exact ⟨n + 1, _, rfl, by omega, by go_num, by rw [HN.out]; exact HO.out, HB.out⟩
        case measure => simp [Go.RowKit.intOf]; omega
      · have HN : Hid (linesOf (J.take (n + 1)) e f t = linesOf (J.take n) e f t) := Lib.hid (by rw [HTK.out]; simp)
        go_wp2_with fail
        go_roundw
        case rel => exact ⟨n + 1, _, rfl, by omega, by go_num, by rw [HN.out]; exact HO.out, HB.out⟩
        case measure => simp [Go.RowKit.intOf]; omega
      · have HN : Hid (linesOf (J.take (n + 1)) e f t = linesOf (J.take n) e f t) := Lib.hid (by rw [HTK.out]; simp)
        go_wp2_with fail
        go_roundw
        case rel => exact ⟨n + 1, _, rfl, by omega, by go_num, by rw [HN.out]; exact HO.out, HB.out⟩
        case measure => simp [Go.RowKit.intOf]; omega
      · have HN : Hid (linesOf (J.take (n + 1)) e f t = linesOf (J.take n) e f t) := Lib.hid (by rw [HTK.out]; simp)
        go_wp2_with fail
        go_roundw
        case rel => exact ⟨n + 1, _, rfl, by omega, by go_num, by rw [HN.out]; exact HO.out, HB.out⟩
        case measure => simp [Go.RowKit.intOf]; omega
      have HN : Hid (linesOf (J.take (n + 1)) e f t = linesOf (J.take n) e f t ++ x.lines) := Lib.hid (by rw [HTK.out]; simp)
      obtain ⟨lad, rfl⟩ : ∃ lad, la = some lad := by
        cases hxl : x.lines with
        | nil => exact absurd hxl hgx.1
        | cons y ys =>
          obtain ⟨ad', _, h, _⟩ := HLX.out 0 y (by rw [hxl]; rfl)
          exact ⟨ad', h⟩
      have HSL : Hid (Sl tLn wr (fun k => some k ≠ vo.ownBlock ∧ k < wr.heap.size) (some lad) x.lines) := Lib.hid (Sl.ofLn HLX.out (Below.refl w.heap.size wr) (fun k hk => hk) (fun k hk => (HO.out.lt k hk).1))
      have h63 : (linesOf (J.take n) e f t).length + x.lines.length ≤ maxLen := by have := hgx.2; unfold maxLen; omega
      have hby : ((linesOf (J.take n) e f t).length + x.lines.length) * 24 ≤ 140737488355328 := by have := hgx.2; omega
      clear hgx hadl
      go_wp2_with (at_builtin; refine wp_app (T := tLn) rfl _ _ 67 rfl i0 (.agg #[.int .i64 0, .int .i64 0, .int .i64 0]) 24 Tryz.underlying67 hi hz0 hz1 hz2 rfl (by decide) ln_one w.heap.size vo (linesOf (J.take n) e f t) rfl HO.out lad lc x.lines rfl HSL.out h63 hby HB.out.size ?_; intro v3 w3 hown hg hnil hat; have HO3 := Lib.hid hown; have HB3 := Lib.hid (Below.grown HB.out hg HB.out.size (fun k e => (HO.out.lt k e).1)); clear hown hg hnil hat)
      go_roundw
      case rel => exact ⟨n + 1, _, rfl, by omega, by go_num, by rw [HN.out]; exact HO3.out, HB3.out⟩
      case measure => simp [Go.RowKit.intOf]; omega
    · have HL : Hid (J.take n = J) := Lib.hid (take_all hn hlt)
      have hown := HO.out
      rw [HL.out] at hown
      have HW := Lib.hid hown
      clear hown
      go_wp2_with fail
      go_ret
      exact ⟨_, rfl, HW.out, HB.out⟩
end Go.Proofs.YtgggpaacagbmcaaGreat
