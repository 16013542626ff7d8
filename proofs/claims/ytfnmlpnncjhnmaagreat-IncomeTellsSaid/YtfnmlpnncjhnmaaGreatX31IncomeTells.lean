/- law 11: the first call is as the document fixes it. -/
import Derived.Test.YtfnmlpnncjhnmaaGreatX30IncomeTells
import Derived.Test.YtfnmlpnncjhnmaaGreatX15IncomeTells
import Derived.Test.YtfnmlpnncjhnmaaGreatX19IncomeTells
import Derived.Test.YtfnmlpnncjhnmaaGreatX21IncomeTells
import Derived.Test.YtfnmlpnncjhnmaaGreatX06IncomeTells
set_option linter.unusedVariables false
set_option linter.unusedSimpArgs false
namespace Go.Proofs.YtfnmlpnncjhnmaaGreat
open Go.RowKit Go.Maps Go.Deep

def j11 : Jn := ⟨1, 1, 3, ⟨#[]⟩, [⟨100, 5, 0⟩, ⟨400, -9, 0⟩, ⟨500, 4, 0⟩], false⟩
def r11 : List Ac := [⟨100, 1, false⟩, ⟨400, 4, false⟩, ⟨500, 5, false⟩]
theorem j11_chk : chk j11 = 0 := by decide +kernel
theorem fit11 : fitJ 40 [j11] = [j11] := by
  have h1 : postJ [] j11 = 0 := post_mk j11_chk rfl (by simp [takenJ, j11]) (by simp)
  unfold fitJ
  simp only [List.foldl_cons, List.foldl_nil]
  unfold fitStep
  rw [h1]
  rfl
theorem set11 : setR r11 = r11 := by decide +kernel
theorem bal11 : balT [j11] 1 0 5 = ([(100, 5), (400, -9), (500, 4)], 0) := by
  have h1 : accR [j11] 1 0 5 = [(100, 5), (400, -9), (500, 4)] := by
    unfold accR tellS
    have e : accS [] (linesOf [j11] 1 0 5) = [(100, 5), (400, -9), (500, 4)] := by decide +kernel
    rw [e]
    have : srt ([((100 : Int), (5 : Int)), (400, -9), (500, 4)].map (·.1)) = [100, 400, 500] := srt_id (l := [100, 400, 500]) (by simp)
    rw [this]
    decide +kernel
  unfold balT
  rw [h1]
  decide +kernel
theorem inc11 : incM r11 [j11] 1 0 5 = ((9, 4, 5), 0) := by
  rw [incM_is bal11]
  decide +kernel
theorem incI11 : incI r11 (balT [j11] 1 0 5).1 = [(400, 9)] := by rw [bal11]; decide +kernel

set_option maxHeartbeats 8000000 in
set_option maxRecDepth 100000 in
theorem alive11 (w : World) : Calls Tryz.prog 20 #[] w fun e w' => e = .returned (.bool true) ∧ Below w.heap.size w w' := by
  have HA1 : Hid (((((w.alloc (.cells #[.int .i64 100, .int .i64 1, .bool false, .int .i64 400, .int .i64 4, .bool false, .int .i64 500, .int .i64 5, .bool false] 83)).alloc (.cells #[.int .i64 100, .int .i64 5, .int .i64 0, .int .i64 400, .int .i64 (-9), .int .i64 0, .int .i64 500, .int .i64 4, .int .i64 0] 85)).alloc (.cells #[.int .i64 1, .int .i64 1, .int .i64 3, .string ⟨#[]⟩, .slice (some ⟨w.heap.size + 1, 0, none⟩) 3 3, .bool false] 88))).heap[w.heap.size]? = some (.cells #[.int .i64 100, .int .i64 1, .bool false, .int .i64 400, .int .i64 4, .bool false, .int .i64 500, .int .i64 5, .bool false] 83 (0, 0))) := Lib.hid (blk_alloc (blk_alloc (blk_new w (.cells #[.int .i64 100, .int .i64 1, .bool false, .int .i64 400, .int .i64 4, .bool false, .int .i64 500, .int .i64 5, .bool false] 83)) (.cells #[.int .i64 100, .int .i64 5, .int .i64 0, .int .i64 400, .int .i64 (-9), .int .i64 0, .int .i64 500, .int .i64 4, .int .i64 0] 85)) (.cells #[.int .i64 1, .int .i64 1, .int .i64 3, .string ⟨#[]⟩, .slice (some ⟨w.heap.size + 1, 0, none⟩) 3 3, .bool false] 88))
  have HL1 : Hid (((((w.alloc (.cells #[.int .i64 100, .int .i64 1, .bool false, .int .i64 400, .int .i64 4, .bool false, .int .i64 500, .int .i64 5, .bool false] 83)).alloc (.cells #[.int .i64 100, .int .i64 5, .int .i64 0, .int .i64 400, .int .i64 (-9), .int .i64 0, .int .i64 500, .int .i64 4, .int .i64 0] 85)).alloc (.cells #[.int .i64 1, .int .i64 1, .int .i64 3, .string ⟨#[]⟩, .slice (some ⟨w.heap.size + 1, 0, none⟩) 3 3, .bool false] 88))).heap[w.heap.size + 1]? = some (.cells #[.int .i64 100, .int .i64 5, .int .i64 0, .int .i64 400, .int .i64 (-9), .int .i64 0, .int .i64 500, .int .i64 4, .int .i64 0] 85 (0, 0))) := Lib.hid (by
    have := blk_alloc (blk_new (w.alloc (.cells #[.int .i64 100, .int .i64 1, .bool false, .int .i64 400, .int .i64 4, .bool false, .int .i64 500, .int .i64 5, .bool false] 83)) (.cells #[.int .i64 100, .int .i64 5, .int .i64 0, .int .i64 400, .int .i64 (-9), .int .i64 0, .int .i64 500, .int .i64 4, .int .i64 0] 85)) (.cells #[.int .i64 1, .int .i64 1, .int .i64 3, .string ⟨#[]⟩, .slice (some ⟨w.heap.size + 1, 0, none⟩) 3 3, .bool false] 88)
    simpa using this)
  have HJ1 : Hid (((((w.alloc (.cells #[.int .i64 100, .int .i64 1, .bool false, .int .i64 400, .int .i64 4, .bool false, .int .i64 500, .int .i64 5, .bool false] 83)).alloc (.cells #[.int .i64 100, .int .i64 5, .int .i64 0, .int .i64 400, .int .i64 (-9), .int .i64 0, .int .i64 500, .int .i64 4, .int .i64 0] 85)).alloc (.cells #[.int .i64 1, .int .i64 1, .int .i64 3, .string ⟨#[]⟩, .slice (some ⟨w.heap.size + 1, 0, none⟩) 3 3, .bool false] 88))).heap[w.heap.size + 2]? = some (.cells #[.int .i64 1, .int .i64 1, .int .i64 3, .string ⟨#[]⟩, .slice (some ⟨w.heap.size + 1, 0, none⟩) 3 3, .bool false] 88 (0, 0))) := Lib.hid (by
    have := blk_new ((w.alloc (.cells #[.int .i64 100, .int .i64 1, .bool false, .int .i64 400, .int .i64 4, .bool false, .int .i64 500, .int .i64 5, .bool false] 83)).alloc (.cells #[.int .i64 100, .int .i64 5, .int .i64 0, .int .i64 400, .int .i64 (-9), .int .i64 0, .int .i64 500, .int .i64 4, .int .i64 0] 85)) (.cells #[.int .i64 1, .int .i64 1, .int .i64 3, .string ⟨#[]⟩, .slice (some ⟨w.heap.size + 1, 0, none⟩) 3 3, .bool false] 88)
    simpa using this)
  have HBA := Lib.hid ((((Below.refl w.heap.size w).alloc (Nat.le_refl _) (.cells #[.int .i64 100, .int .i64 1, .bool false, .int .i64 400, .int .i64 4, .bool false, .int .i64 500, .int .i64 5, .bool false] 83)).alloc (by simp) (.cells #[.int .i64 100, .int .i64 5, .int .i64 0, .int .i64 400, .int .i64 (-9), .int .i64 0, .int .i64 500, .int .i64 4, .int .i64 0] 85)).alloc (by simp; omega) (.cells #[.int .i64 1, .int .i64 1, .int .i64 3, .string ⟨#[]⟩, .slice (some ⟨w.heap.size + 1, 0, none⟩) 3 3, .bool false] 88))
  have HSA : Hid (Sl tAc (((w.alloc (.cells #[.int .i64 100, .int .i64 1, .bool false, .int .i64 400, .int .i64 4, .bool false, .int .i64 500, .int .i64 5, .bool false] 83)).alloc (.cells #[.int .i64 100, .int .i64 5, .int .i64 0, .int .i64 400, .int .i64 (-9), .int .i64 0, .int .i64 500, .int .i64 4, .int .i64 0] 85)).alloc (.cells #[.int .i64 1, .int .i64 1, .int .i64 3, .string ⟨#[]⟩, .slice (some ⟨w.heap.size + 1, 0, none⟩) 3 3, .bool false] 88)) (fun _ => True) (some ⟨w.heap.size, 0, none⟩) r11) := Lib.hid (sl_block r11 [acs ⟨100, 1, false⟩, acs ⟨400, 4, false⟩, acs ⟨500, 5, false⟩] rfl (by simp; rfl) HA1.out trivial (fun i c x hi hx => by
    match i, hi, hx with
    | 0, hi, hx => simp [r11] at hi hx; subst hi; subst hx; exact ac_mk _ (by decide) (by decide)
    | 1, hi, hx => simp [r11] at hi hx; subst hi; subst hx; exact ac_mk _ (by decide) (by decide)
    | 2, hi, hx => simp [r11] at hi hx; subst hi; subst hx; exact ac_mk _ (by decide) (by decide)
    | i + 3, hi, hx => simp at hi))
  have HSL : Hid (Sl tLn (((w.alloc (.cells #[.int .i64 100, .int .i64 1, .bool false, .int .i64 400, .int .i64 4, .bool false, .int .i64 500, .int .i64 5, .bool false] 83)).alloc (.cells #[.int .i64 100, .int .i64 5, .int .i64 0, .int .i64 400, .int .i64 (-9), .int .i64 0, .int .i64 500, .int .i64 4, .int .i64 0] 85)).alloc (.cells #[.int .i64 1, .int .i64 1, .int .i64 3, .string ⟨#[]⟩, .slice (some ⟨w.heap.size + 1, 0, none⟩) 3 3, .bool false] 88)) (fun _ => True) (some ⟨w.heap.size + 1, 0, none⟩) j11.lines) := Lib.hid (sl_block j11.lines [[.int .i64 100, .int .i64 5, .int .i64 0], [.int .i64 400, .int .i64 (-9), .int .i64 0], [.int .i64 500, .int .i64 4, .int .i64 0]] rfl (by simp; rfl) HL1.out trivial (fun i c x hi hx => by
    match i, hi, hx with
    | 0, hi, hx => simp [j11] at hi hx; subst hi; subst hx; exact ln_mk _ (by decide) (by decide) (by decide)
    | 1, hi, hx => simp [j11] at hi hx; subst hi; subst hx; exact ln_mk _ (by decide) (by decide) (by decide)
    | 2, hi, hx => simp [j11] at hi hx; subst hi; subst hx; exact ln_mk _ (by decide) (by decide) (by decide)
    | i + 3, hi, hx => simp at hi))
  have HSJ : Hid (Sl tJn (((w.alloc (.cells #[.int .i64 100, .int .i64 1, .bool false, .int .i64 400, .int .i64 4, .bool false, .int .i64 500, .int .i64 5, .bool false] 83)).alloc (.cells #[.int .i64 100, .int .i64 5, .int .i64 0, .int .i64 400, .int .i64 (-9), .int .i64 0, .int .i64 500, .int .i64 4, .int .i64 0] 85)).alloc (.cells #[.int .i64 1, .int .i64 1, .int .i64 3, .string ⟨#[]⟩, .slice (some ⟨w.heap.size + 1, 0, none⟩) 3 3, .bool false] 88)) (fun _ => True) (some ⟨w.heap.size + 2, 0, none⟩) [j11]) :=
    Lib.hid (sl_oneJ (j := j11) (a := some ⟨w.heap.size + 1, 0, none⟩) (cap := 3) HJ1.out trivial (jn_mk j11 (by decide) (by decide) (by decide) (by decide) HSL.out (by decide) (by decide) (by rw [line_bytes]; decide)))
  go_enter Tryz.func20, Tryz.ntmps20
  go_wp2_with fail
  refine (set_any r11 (some ⟨w.heap.size, 0, none⟩) 3 [j11] (some ⟨w.heap.size + 2, 0, none⟩) 1 _ HSA.out (by decide) HSJ.out (by decide)).mono ?_
  rintro en w1 ⟨c, g, ra, fa, ga, rc, fc, gc, mb, rfl, hc, hg, _, _, hb⟩
  rw [fit11] at hg
  rw [set11] at hc
  have HC := Lib.hid hc
  have HG := Lib.hid hg
  have HB1 := Lib.hid (belows_then HBA.out HBA.out.size hb)
  have hgood : GoodJ [j11] := by
    have := (fit_val 40 [j11]).good
    rwa [fit11] at this
  clear hc hg hb HBA HA1 HL1 HJ1 HSA HSJ HSL
  generalize (setR r11).length = nr at *
  generalize (fitJ 40 [j11]).length = nj at *
  go_wp2_with fail
  refine (iMake_any HC.out HG.out (by decide) hgood 1 0 5 (by decide) (by decide) inc11).mono ?_
  rintro en w2 ⟨v1, v2, rfl, h0, _, hb⟩
  obtain ⟨ho1, ho2⟩ := h0 rfl
  rw [incI11] at ho1
  obtain ⟨a1, c1, rfl, _, _, hs1⟩ := ho1.slice
  obtain ⟨a2, c2, rfl, _, _, _⟩ := ho2.1.slice
  obtain ⟨ad, hae, _, hadl, hc0, hc1, _, _⟩ := bal_at hs1 0 (by simp)
  subst hae
  have e1 : ad.add (0 * 2) = ad := by unfold Addr.add; split <;> simp_all
  rw [e1] at hc0 hc1
  have HB2 := Lib.hid (belows_then HB1.out HB1.out.size hb)
  generalize (incO r11 (balT [j11] 1 0 5).1).length = n2 at *
  have hc1' : w2.cell? ⟨ad.block, ad.off + 1, none⟩ = some (.int .i64 9) := hc1
  clear hb HC HG HB1 ho1 ho2 h0 hs1 hc1 e1
  have HBF := Lib.hid (HB2.out.alloc HB2.out.size (.cells #[.slice (some ad) 1 c1, .slice a2 n2 c2, .int .i64 9, .int .i64 4, .int .i64 5] 62))
  simp only [List.length_cons, List.length_nil, Nat.zero_add]
  go_wp2_with fail
  go_ret
  exact ⟨rfl, HBF.out⟩
end Go.Proofs.YtfnmlpnncjhnmaaGreat


/- The document's balances: may it be asked, all lines. -/
set_option linter.unusedVariables false
set_option linter.unusedSimpArgs false
namespace Go.Proofs.YtfnmlpnncjhnmaaGreat
open Go.RowKit Go.Maps Go.Deep

set_option maxHeartbeats 4000000 in
theorem r10Right_is (e f t : Int) (h1 : 1 ≤ e) (h2 : e ≤ 9) (hf : monthOk f = true) (ht : monthOk t = true) (hft : f ≤ t) (w : World) : Calls Tryz.prog 37 #[.int .i64 e, .int .i64 f, .int .i64 t] w fun en w' => en = .returned (.bool true) ∧ Below w.heap.size w w' := by
  have HF := Lib.hid hf
  have HT := Lib.hid ht
  clear hf ht
  go_enter Tryz.func37, Tryz.ntmps37
  go_wp2_with fail
  refine (ref_valid_is f HF.out _).mono ?_
  rintro en w1 ⟨rfl, hb⟩
  have HB := Lib.hid hb
  clear hb
  go_wp2_with fail
  refine (ref_valid_is t HT.out _).mono ?_
  rintro en w2 ⟨rfl, hb⟩
  have HB2 := Lib.hid (belows_then HB.out HB.out.size hb)
  clear hb
  go_wp2_with fail
  go_ret
  exact ⟨rfl, HB2.out⟩

theorem Sl.ofLn {w W : World} {la : Option Addr} {xs : List Ln} {F : Nat → Prop} {v : Value} {B : Nat} (h : Sl tLn w F la xs) (hb : Below B w W) (hB : ∀ k, F k → k < B) (hv : ∀ k, v.ownBlock = some k → B ≤ k) : Sl tLn W (fun k => some k ≠ v.ownBlock ∧ k < W.heap.size) la xs := by
  intro i x hx
  obtain ⟨ad, ces, ha, hf, hlt, hc, hr⟩ := h i x hx
  have hs := hb.size
  have hl := hB _ hf
  refine ⟨ad, ces, ha, ⟨fun e => by have := hv _ e.symm; omega, by omega⟩, by omega, fun j u hu => ?_, ?_⟩
  · rw [← hc j u hu]
    exact World.cell?_of_block (w := w) (by rw [add_block, add_block]; exact hb.block _ hl)
  · obtain ⟨rfl, h1, h2, h3⟩ := ln_inv hr
    exact ln_mk _ h1 h2 h3

set_option maxHeartbeats 8000000 in
set_option maxRecDepth 100000 in
theorem r10Lines_any (J : List Jn) (a : Option Addr) (cap : Nat) (e f t : Int) (w : World) {F : Nat → Prop} (hs : Sl tJn w F a J) (hg : GoodJ J) (hl : J.length ≤ 1000) :
    Calls Tryz.prog 38 #[.slice a J.length cap, .int .i64 e, .int .i64 f, .int .i64 t] w fun en w' => ∃ v, en = .returned v ∧ OwnL tLn w' w.heap.size v (linesOf J e f t) ∧ Below w.heap.size w w' := by
  have HS : Hid (Sl tJn w (fun k => k < w.heap.size) a J) := Sl.mono (fun k hk _ => hk) hs
  have HG := Lib.hid hg
  clear hs hg
  obtain ⟨i0, hi, hz0, hz1, hz2⟩ := info_parts infoL
  go_enter Tryz.func38, Tryz.ntmps38
  go_wp2_with fail
  go_loopw [9, 10] (fun vo vi wr => ∃ (n : Nat) (vx : Value), vx = vo ∧ n ≤ J.length ∧ vi = .int .i64 n ∧ OwnL tLn wr w.heap.size vx (linesOf (J.take n) e f t) ∧ Below w.heap.size w wr) (fun _ vi _ => J.length - (intOf vi).toNat)
  case atStart => exact ⟨0, _, rfl, Nat.zero_le _, rfl, OwnL.nil _ _, Below.refl _ _⟩
  case round =>
    obtain ⟨n, vo, rfl, hn, rfl, ho, hb⟩ := hrel
    have HO := Lib.hid ho
    have HB := Lib.hid hb
    clear ho hb
    by_cases hlt : n < J.length
    · obtain ⟨ad, la, lc, rfl, _, hadl, hc0, hc1, hc2, hc3, hc4, hc5, hr⟩ := jn_at (Sl.keep (fun k hk _ => HB.out.block k hk) HS.out) n hlt
      have HTK := Lib.hid (linesOf_succ e f t J n hlt)
      have hnum : (linesOf (J.take n) e f t).length ≤ 8000 := linesOf_len (fun x hx => HG.out x (List.mem_of_mem_take hx)) (by rw [List.length_take]; omega) e f t
      have hgx := HG.out _ (List.getElem_mem hlt)
      obtain ⟨b, hcb⟩ : ∃ b, cnt e f t J[n] = b := ⟨_, rfl⟩
      have hcs := cnt_cases hcb
      rw [hcb] at HTK
      generalize J[n] = x at *
      have HLX := Lib.hid (jcs_inv hr).2.2.2.2.1
      clear hr hcb
      rcases hcs with ⟨rfl, h1 | ⟨h1, h2 | ⟨h2, h3 | ⟨h3, h4⟩⟩⟩⟩ | ⟨rfl, h1, h2, h3, h4⟩
      · have HN : Hid (linesOf (J.take (n + 1)) e f t = linesOf (J.take n) e f t) := Lib.hid (by rw [HTK.out]; simp)
        go_wp2_with fail
        go_roundw
        case rel => exact ⟨n + 1, _, rfl, by omega, by go_num, by rw [HN.out]; exact HO.out, HB.out⟩
        case measure => simp [intOf]; omega
      · have HN : Hid (linesOf (J.take (n + 1)) e f t = linesOf (J.take n) e f t) := Lib.hid (by rw [HTK.out]; simp)
        go_wp2_with fail
        go_roundw
        case rel => exact ⟨n + 1, _, rfl, by omega, by go_num, by rw [HN.out]; exact HO.out, HB.out⟩
        case measure => simp [intOf]; omega
      · have HN : Hid (linesOf (J.take (n + 1)) e f t = linesOf (J.take n) e f t) := Lib.hid (by rw [HTK.out]; simp)
        go_wp2_with fail
        go_roundw
        case rel => exact ⟨n + 1, _, rfl, by omega, by go_num, by rw [HN.out]; exact HO.out, HB.out⟩
        case measure => simp [intOf]; omega
      · have HN : Hid (linesOf (J.take (n + 1)) e f t = linesOf (J.take n) e f t) := Lib.hid (by rw [HTK.out]; simp)
        go_wp2_with fail
        go_roundw
        case rel => exact ⟨n + 1, _, rfl, by omega, by go_num, by rw [HN.out]; exact HO.out, HB.out⟩
        case measure => simp [intOf]; omega
      have HN : Hid (linesOf (J.take (n + 1)) e f t = linesOf (J.take n) e f t ++ x.lines) := Lib.hid (by rw [HTK.out]; simp)
      obtain ⟨lad, rfl⟩ : ∃ lad, la = some lad := by
        cases hxl : x.lines with
        | nil => exact absurd hxl hgx.1
        | cons y ys =>
          obtain ⟨ad', _, h, _⟩ := HLX.out 0 y (by rw [hxl]; rfl)
          exact ⟨ad', h⟩
      have HSL : Hid (Sl tLn wr (fun k => some k ≠ vo.ownBlock ∧ k < wr.heap.size) (some lad) x.lines) := Lib.hid (Sl.ofLn HLX.out (Below.refl w.heap.size wr) (fun k hk => hk) (fun k hk => (HO.out.lt k hk).1))
      have h63 : (linesOf (J.take n) e f t).length + x.lines.length ≤ maxLen := by have := hgx.2; unfold maxLen; omega
      have hby : ((linesOf (J.take n) e f t).length + x.lines.length) * 24 ≤ 140737488355328 := by have := hgx.2; omega
      clear hgx hadl
      go_wp2_with (at_builtin; refine wp_app (T := tLn) rfl _ _ 86 rfl i0 (.agg #[.int .i64 0, .int .i64 0, .int .i64 0]) 24 Tryz.underlying86 hi hz0 hz1 hz2 rfl (by decide) ln_one w.heap.size vo (linesOf (J.take n) e f t) rfl HO.out lad lc x.lines rfl HSL.out h63 hby HB.out.size ?_; intro v3 w3 hown hg hnil hat; have HO3 := Lib.hid hown; have HB3 := Lib.hid (Below.grown HB.out hg HB.out.size (fun k e => (HO.out.lt k e).1)); clear hown hg hnil hat)
      go_roundw
      case rel => exact ⟨n + 1, _, rfl, by omega, by go_num, by rw [HN.out]; exact HO3.out, HB3.out⟩
      case measure => simp [intOf]; omega
    · have HL : Hid (J.take n = J) := Lib.hid (take_all hn hlt)
      have hown := HO.out
      rw [HL.out] at hown
      have HW := Lib.hid hown
      clear hown
      go_wp2_with fail
      go_ret
      exact ⟨_, rfl, HW.out, HB.out⟩
end Go.Proofs.YtfnmlpnncjhnmaaGreat
