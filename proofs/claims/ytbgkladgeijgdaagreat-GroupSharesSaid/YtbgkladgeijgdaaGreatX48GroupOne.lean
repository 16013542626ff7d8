/- Plain: what is others', by the group's share. -/
import Derived.Test.YtbgkladgeijgdaaGreatX31GroupOne
import Derived.Test.YtbgkladgeijgdaaGreatX16GroupOne
import Derived.Test.YtbgkladgeijgdaaGreatX18GroupOne
import Derived.Test.YtbgkladgeijgdaaGreatX19GroupOne
import Derived.Test.YtbgkladgeijgdaaGreatX07GroupOne
import Derived.Test.YtbgkladgeijgdaaGreatX28GroupOne
import Derived.Deep.RegionHeld3
set_option linter.unusedVariables false
set_option linter.unusedSimpArgs false
namespace Go.Proofs.YtbgkladgeijgdaaGreat
open Go.RowKit Go.Maps Go.Deep

theorem signN_max (a : Int) (n : Nat) : max (signN a n) (-(signN a n)) = (n : Int) := by
  unfold signN
  split <;> omega
theorem scaleT_ok {a num den : Int} (h : (scaleT a num den).2 = 0) : (scaleT a num den).1 = signN a (scaleN (a.natAbs * num.toNat) den.toNat) := by
  unfold scaleT at h ⊢
  split at h
  · simp at h
  · rename_i h1
    rw [if_neg h1]
/-- the greater the part the more it is -/
theorem scaleT_mono {a n m : Int} (hn : 0 ≤ n) (h : n ≤ m) (e1 : (scaleT a n 10000).2 = 0) (e2 : (scaleT a m 10000).2 = 0) :
    max (scaleT a n 10000).1 (-(scaleT a n 10000).1) ≤ max (scaleT a m 10000).1 (-(scaleT a m 10000).1) := by
  rw [scaleT_ok e1, scaleT_ok e2, signN_max, signN_max]
  have := scaleN_mono (m := a.natAbs * n.toNat) (m' := a.natAbs * m.toNat) (den := (10000 : Int).toNat) (by decide) (Nat.mul_le_mul_left _ (by omega))
  omega
/-- what one member alone has: its error, and what fits -/
theorem grp_mem {r : List Ac} {J : List Jn} {e p sh : Int} (h : (grpT r [oneM e sh] J p).2 = 0) : memE r [oneM e sh] J p (oneM e sh) = 0 := by
  unfold grpT at h
  by_cases h1 : memsE r [oneM e sh] J p [oneM e sh] = 0
  · exact (if_ne0 h1).1
  · have h3 : (memsE r [oneM e sh] J p [oneM e sh] != 0) = true := by simpa using h1
    rw [if_pos h3] at h
    exact absurd h h1
/-- GroupShares, plain -/
theorem shares_plain {r : List Ac} (hr : GoodA r) {J : List Jn} (hV : ValJ J) {e p sh more : Int} (h1 : 0 ≤ more) (h2 : sh ≤ 10000) (h3 : more ≤ 10000 - sh)
    (ex : (grpT r [oneM e sh] J p).2 = 0) (ey : (grpT r [oneM e (sh + more)] J p).2 = 0) (ez : (grpT r [oneM e 0] J p).2 = 0) (ew : (grpT r [oneM e 10000] J p).2 = 0) :
    max (grpT r [oneM e (sh + more)] J p).1.oth (-(grpT r [oneM e (sh + more)] J p).1.oth) ≤ max (grpT r [oneM e sh] J p).1.oth (-(grpT r [oneM e sh] J p).1.oth) ∧
    (grpT r [oneM e 10000] J p).1.oth = 0 ∧ (grpT r [oneM e 0] J p).1.own = 0 ∧ (grpT r [oneM e sh] J p).1.bal = (grpT r [oneM e (sh + more)] J p).1.bal ∧
    (grpT r [oneM e sh] J p).1.owned = (grpT r [oneM e 0] J p).1.owned ∧ (grpT r [oneM e sh] J p).1.owed = (grpT r [oneM e 10000] J p).1.owed := by
  obtain ⟨_, _, _, rfl, rfl, gx⟩ := grp_one hV ex
  obtain ⟨_, _, _, rfl, rfl, gy⟩ := grp_one hV ey
  obtain ⟨_, _, _, rfl, rfl, gz⟩ := grp_one hV ez
  obtain ⟨_, _, _, rfl, rfl, gw⟩ := grp_one hV ew
  obtain ⟨_, hf, sx, _⟩ := mem_one hV (grp_mem ex)
  obtain ⟨_, _, sy, _⟩ := mem_one hV (grp_mem ey)
  have ho := own_zero hr hV e p
  rw [gx, gy, gz, gw]
  refine ⟨scaleT_mono (by omega) (by omega) sy sx, ?_, ?_, rfl, rfl, rfl⟩
  · show (scaleT (shrS r J e p) (10000 - 10000) 10000).1 = 0
    rw [show (10000 - 10000 : Int) = 0 from rfl, scale_none _ (by decide)]
  · show _ - _ + (scaleT (shrS r J e p) (10000 - 0) 10000).1 = 0
    rw [show (10000 - 0 : Int) = 10000 from rfl, scale_same hf (by decide)]
    simp only
    omega
/-- GroupOne, plain -/
theorem one_plain {r : List Ac} {J : List Jn} (hV : ValJ J) {e p : Int} (h : (grpT r [oneM e 10000] J p).2 = 0) :
    (grpT r [oneM e 10000] J p).1 = ⟨accR J e 0 p, 0, 0, 0, sumI (((accR J e 0 p).filter (pickB r [1])).map (·.2)), -sumI (((accR J e 0 p).filter (pickB r [2])).map (·.2)),
      sumI (((accR J e 0 p).filter (pickB r [1])).map (·.2)) - -sumI (((accR J e 0 p).filter (pickB r [2])).map (·.2))⟩ := by
  obtain ⟨_, _, _, rfl, rfl, g⟩ := grp_one hV h
  rw [g, show (10000 - 10000 : Int) = 0 from rfl, scale_none _ (by decide)]
  simp
end Go.Proofs.YtbgkladgeijgdaaGreat


/- The document's balances: may it be asked, all lines. -/
set_option linter.unusedVariables false
set_option linter.unusedSimpArgs false
namespace Go.Proofs.YtbgkladgeijgdaaGreat
open Go.RowKit Go.Maps Go.Deep

set_option maxHeartbeats 4000000 in
theorem r10Right_is (e f t : Int) (h1 : 1 ≤ e) (h2 : e ≤ 9) (hf : monthOk f = true) (ht : monthOk t = true) (hft : f ≤ t) (w : World) : Calls Tryz.prog 78 #[.int .i64 e, .int .i64 f, .int .i64 t] w fun en w' => en = .returned (.bool true) ∧ Below w.heap.size w w' := by
  have HF := Lib.hid hf
  have HT := Lib.hid ht
  clear hf ht
  go_enter Tryz.func78, Tryz.ntmps78
  go_wp2_with fail
  refine (ref_valid_is f HF.out _).mono ?_
  rintro en w1 ⟨rfl, hb⟩
  have HB := Lib.hid hb
  clear hb
  go_wp2_with fail
  refine (ref_valid_is t HT.out _).mono ?_
  rintro en w2 ⟨rfl, hb⟩
  have HB2 := Lib.hid (belows_then HB.out HB.out.size hb)
  clear hb
  go_wp2_with fail
  go_ret
  exact ⟨rfl, HB2.out⟩

theorem Sl.ofLn {w W : World} {la : Option Addr} {xs : List Ln} {F : Nat → Prop} {v : Value} {B : Nat} (h : Sl tLn w F la xs) (hb : Below B w W) (hB : ∀ k, F k → k < B) (hv : ∀ k, v.ownBlock = some k → B ≤ k) : Sl tLn W (fun k => some k ≠ v.ownBlock ∧ k < W.heap.size) la xs := by
  intro i x hx
  obtain ⟨ad, ces, ha, hf, hlt, hc, hr⟩ := h i x hx
  have hs := hb.size
  have hl := hB _ hf
  refine ⟨ad, ces, ha, ⟨fun e => by have := hv _ e.symm; omega, by omega⟩, by omega, fun j u hu => ?_, ?_⟩
  · rw [← hc j u hu]
    exact World.cell?_of_block (w := w) (by rw [add_block, add_block]; exact hb.block _ hl)
  · obtain ⟨rfl, h1, h2, h3⟩ := ln_inv hr
    exact ln_mk _ h1 h2 h3

set_option maxHeartbeats 8000000 in
set_option maxRecDepth 100000 in
theorem r10Lines_any (J : List Jn) (a : Option Addr) (cap : Nat) (e f t : Int) (w : World) {F : Nat → Prop} (hs : Sl tJn w F a J) (hg : GoodJ J) (hl : J.length ≤ 1000) :
    Calls Tryz.prog 30 #[.slice a J.length cap, .int .i64 e, .int .i64 f, .int .i64 t] w fun en w' => ∃ v, en = .returned v ∧ OwnL tLn w' w.heap.size v (linesOf J e f t) ∧ Below w.heap.size w w' := by
  have HS : Hid (Sl tJn w (fun k => k < w.heap.size) a J) := Sl.mono (fun k hk _ => hk) hs
  have HG := Lib.hid hg
  clear hs hg
  obtain ⟨i0, hi, hz0, hz1, hz2⟩ := info_parts infoL
  go_enter Tryz.func30, Tryz.ntmps30
  go_wp2_with fail
  go_loopw [9, 10] (fun vo vi wr => ∃ (n : Nat) (vx : Value), vx = vo ∧ n ≤ J.length ∧ vi = .int .i64 n ∧ OwnL tLn wr w.heap.size vx (linesOf (J.take n) e f t) ∧ Below w.heap.size w wr) (fun _ vi _ => J.length - (intOf vi).toNat)
  case atStart => exact ⟨0, _, rfl, Nat.zero_le _, rfl, OwnL.nil _ _, Below.refl _ _⟩
  case round =>
    obtain ⟨n, vo, rfl, hn, rfl, ho, hb⟩ := hrel
    have HO := Lib.hid ho
    have HB := Lib.hid hb
    clear ho hb
    by_cases hlt : n < J.length
    · obtain ⟨ad, la, lc, rfl, _, hadl, hc0, hc1, hc2, hc3, hc4, hc5, hr⟩ := jn_at (Sl.keep (fun k hk _ => HB.out.block k hk) HS.out) n hlt
      have HTK := Lib.hid (linesOf_succ e f t J n hlt)
      have hnum : (linesOf (J.take n) e f t).length ≤ 8000 := linesOf_len (fun x hx => HG.out x (List.mem_of_mem_take hx)) (by rw [List.length_take]; omega) e f t
      have hgx := HG.out _ (List.getElem_mem hlt)
      obtain ⟨b, hcb⟩ : ∃ b, cnt e f t J[n] = b := ⟨_, rfl⟩
      have hcs := cnt_cases hcb
      rw [hcb] at HTK
      generalize J[n] = x at *
      have HLX := Lib.hid (jcs_inv hr).2.2.2.2.1
      clear hr hcb
      rcases hcs with ⟨rfl, h1 | ⟨h1, h2 | ⟨h2, h3 | ⟨h3, h4⟩⟩⟩⟩ | ⟨rfl, h1, h2, h3, h4⟩
      · have HN : Hid (linesOf (J.take (n + 1)) e f t = linesOf (J.take n) e f t) := Lib.hid (by rw [HTK.out]; simp)
        go_wp2_with fail
        go_roundw
        case rel => exact ⟨n + 1, _, rfl, by omega, by go_num, by rw [HN.out]; exact HO.out, HB.out⟩
        case measure => simp [intOf]; omega
      · have HN : Hid (linesOf (J.take (n + 1)) e f t = linesOf (J.take n) e f t) := Lib.hid (by rw [HTK.out]; simp)
        go_wp2_with fail
        go_roundw
        case rel => exact ⟨n + 1, _, rfl, by omega, by go_num, by rw [HN.out]; exact HO.out, HB.out⟩
        case measure => simp [intOf]; omega
      · have HN : Hid (linesOf (J.take (n + 1)) e f t = linesOf (J.take n) e f t) := Lib.hid (by rw [HTK.out]; simp)
        go_wp2_with fail
        go_roundw
        case rel => exact ⟨n + 1, _, rfl, by omega, by go_num, by rw [HN.out]; exact HO.out, HB.out⟩
        case measure => simp [intOf]; omega
      · have HN : Hid (linesOf (J.take (n + 1)) e f t = linesOf (J.take n) e f t) := Lib.hid (by rw [HTK.out]; simp)
        go_wp2_with fail
        go_roundw
        case rel => exact ⟨n + 1, _, rfl, by omega, by go_num, by rw [HN.out]; exact HO.out, HB.out⟩
        case measure => simp [intOf]; omega
      have HN : Hid (linesOf (J.take (n + 1)) e f t = linesOf (J.take n) e f t ++ x.lines) := Lib.hid (by rw [HTK.out]; simp)
      obtain ⟨lad, rfl⟩ : ∃ lad, la = some lad := by
        cases hxl : x.lines with
        | nil => exact absurd hxl hgx.1
        | cons y ys =>
          obtain ⟨ad', _, h, _⟩ := HLX.out 0 y (by rw [hxl]; rfl)
          exact ⟨ad', h⟩
      have HSL : Hid (Sl tLn wr (fun k => some k ≠ vo.ownBlock ∧ k < wr.heap.size) (some lad) x.lines) := Lib.hid (Sl.ofLn HLX.out (Below.refl w.heap.size wr) (fun k hk => hk) (fun k hk => (HO.out.lt k hk).1))
      have h63 : (linesOf (J.take n) e f t).length + x.lines.length ≤ maxLen := by have := hgx.2; unfold maxLen; omega
      have hby : ((linesOf (J.take n) e f t).length + x.lines.length) * 24 ≤ 140737488355328 := by have := hgx.2; omega
      clear hgx hadl
      go_wp2_with (at_builtin; refine wp_app (T := tLn) rfl _ _ 75 rfl i0 (.agg #[.int .i64 0, .int .i64 0, .int .i64 0]) 24 Tryz.underlying75 hi hz0 hz1 hz2 rfl (by decide) ln_one w.heap.size vo (linesOf (J.take n) e f t) rfl HO.out lad lc x.lines rfl HSL.out h63 hby HB.out.size ?_; intro v3 w3 hown hg hnil hat; have HO3 := Lib.hid hown; have HB3 := Lib.hid (Below.grown HB.out hg HB.out.size (fun k e => (HO.out.lt k e).1)); clear hown hg hnil hat)
      go_roundw
      case rel => exact ⟨n + 1, _, rfl, by omega, by go_num, by rw [HN.out]; exact HO3.out, HB3.out⟩
      case measure => simp [intOf]; omega
    · have HL : Hid (J.take n = J) := Lib.hid (take_all hn hlt)
      have hown := HO.out
      rw [HL.out] at hown
      have HW := Lib.hid hown
      clear hown
      go_wp2_with fail
      go_ret
      exact ⟨_, rfl, HW.out, HB.out⟩
end Go.Proofs.YtbgkladgeijgdaaGreat


/- The document's Net, Balances. -/
set_option linter.unusedVariables false
set_option linter.unusedSimpArgs false
namespace Go.Proofs.YtbgkladgeijgdaaGreat
open Go.RowKit Go.Maps Go.Deep

theorem plain_bal {J : List Jn} (hV : ValJ J) {e f t : Int} (hr : rightB e f t = true) : (balT J e f t = ((plainT (refS (linesOf J e f t))).1, if (plainT (refS (linesOf J e f t))).2 then 0 else 2)) := by
  rw [ref_bal hV]
  unfold balT
  rw [hr]
  cases (accR J e f t).all (fun x => fitsB x.2) <;> rfl

set_option maxHeartbeats 16000000 in
set_option maxRecDepth 100000 in
theorem r10Balances_any (J : List Jn) (a : Option Addr) (cap : Nat) (e f t : Int) (w : World) {F : Nat → Prop} (hs : Sl tJn w F a J) (hV : ValJ J) (h1 : 1 ≤ e) (h2 : e ≤ 9) (hf : monthOk f = true) (ht : monthOk t = true) (hft : f ≤ t) :
    Calls Tryz.prog 18 #[.slice a J.length cap, .int .i64 e, .int .i64 f, .int .i64 t] w (BalPost w (balT J e f t)) := by
  have hr : rightB e f t = true := by
    unfold rightB entB
    simp [h1, h2, hf, ht, hft]
  have HPB := Lib.hid (plain_bal hV hr)
  have HR := Lib.hid (r10Right_is e f t h1 h2 hf ht hft w)
  have HS := Lib.hid hs
  have HV := Lib.hid hV
  have HAM := Lib.hid (linesOf_amt hV e f t)
  have hln := linesOf_len hV.good (by have := hV.len; omega) e f t
  clear hs hV hf ht hr h1 h2 hft
  go_enter Tryz.func18, Tryz.ntmps18
  go_wp2_with fail
  refine HR.out.mono ?_
  rintro en w1 ⟨rfl, hb⟩
  have HB1 := Lib.hid hb
  clear hb HR
  go_wp2_with fail
  refine (r10Lines_any J a cap e f t w1 (Sl.keep (fun k hk _ => HB1.out.block k hk) HS.out) HV.out.good (by have := HV.out.len; omega)).mono ?_
  rintro en w2 ⟨v, rfl, ho, hb⟩
  have HB2 := Lib.hid (belows_then HB1.out HB1.out.size hb)
  obtain ⟨ls, hls⟩ : ∃ ls, linesOf J e f t = ls := ⟨_, rfl⟩
  rw [hls] at ho HPB HAM hln
  obtain ⟨la, lc, rfl, _, _, hsl⟩ := ho.slice
  have HSL := Lib.hid hsl
  clear hb hls ho hsl HB1 HS HV
  have hl' : ls.length ≤ 9223372036854775807 := by omega
  go_wp2_with fail
  go_loopw [10, 12] (fun vo vi wr => ∃ (n : Nat) (vx : Value), vx = vo ∧ n ≤ ls.length ∧ vi = .int .i64 n ∧ OwnL tBal wr w.heap.size vx (refS (ls.take n)) ∧ Below w2.heap.size w2 wr) (fun _ vi _ => ls.length - (intOf vi).toNat)
  case atStart => exact ⟨0, _, rfl, Nat.zero_le _, rfl, OwnL.nil _ _, Below.refl _ _⟩
  case round =>
    obtain ⟨n, vo, rfl, hn, rfl, ho, hb⟩ := hrel
    have HO := Lib.hid ho
    have HB := Lib.hid hb
    clear ho hb
    have hrl : (refS (ls.take n)).length ≤ 8000 := by
      have := (refS_all _ (ls.take n) rfl).2.2
      rw [List.length_take] at this
      omega
    by_cases hlt : n < ls.length
    · obtain ⟨ad, rfl, _, hadl, hc0, hc1, hc2, hgx⟩ := ln_at (Sl.keep (fun k hk _ => HB.out.block k hk) HSL.out) n hlt
      have HN := Lib.hid (refS_succ ls n hlt)
      have hmx := HAM.out _ (List.getElem_mem hlt)
      have HRB : Hid (∀ x ∈ refS (ls.take n), -8000000000000000000 ≤ x.2 ∧ x.2 ≤ 8000000000000000000) := Lib.hid (refS_bd (fun x hx => HAM.out x (List.mem_of_mem_take hx)) (by rw [List.length_take]; omega))
      generalize ls[n] = x at *
      obtain ⟨oa, oc, rfl, _, _, hos⟩ := HO.out.slice
      have HKA : Hid (I64 x.acc) := Lib.hid hgx.1
      have hcell := And.intro hc0 hc1
      have HCE : Hid (∀ W, Below wr.heap.size wr W → (W.cell? (ad.add (n * 3)) = some (.int .i64 x.acc) ∧ W.cell? ⟨(ad.add (n * 3)).block, (ad.add (n * 3)).off + 1, none⟩ = some (.int .i64 x.amt))) := Lib.hid (fun W hb => by
        have hbk : W.heap[(ad.add (n * 3)).block]? = wr.heap[(ad.add (n * 3)).block]? := by rw [add_block]; exact hb.block _ hadl
        exact ⟨by rw [← hcell.1]; exact World.cell?_of_block (w := wr) hbk, by rw [← hcell.2]; exact World.cell?_of_block (w := wr) hbk⟩)
      have HPU := Lib.hid (r10Put_any (refS (ls.take n)) oa oc x.acc x.amt wr.drew (Sl.keep (w := wr) (w' := wr.drew) (fun k hk _ => rfl) hos) (by omega) HKA.out hmx.1 hmx.2 HRB.out)
      have HBD : Hid (Below wr.heap.size wr wr.drew) := Lib.hid (Below.drew (Below.refl _ _))
      clear hos hgx hmx hcell
      go_wp2_with fail
      go_region_held3 (fun w' => w'.cell? (ad.add (n * 3)) = some (.int .i64 x.acc) ∧ w'.cell? ⟨(ad.add (n * 3)).block, (ad.add (n * 3)).off + 1, none⟩ = some (.int .i64 x.amt)) (first | with_reducible exact HCE.out _ HB4.out | with_reducible exact HCE.out _ HBD.out) ((go_at_call 32; refine HPU.out.mono ?_; rintro en w4 ⟨v4, rfl, ho, hb⟩; have HB4 : Hid (Below wr.heap.size wr w4) := Lib.hid (belows_then HBD.out HBD.out.size hb); have HO4 := Lib.hid ho; clear ho hb))
      have HON : Hid (OwnL tBal w4 w.heap.size v4 (refS (ls.take (n + 1)))) := Lib.hid (by rw [HN.out]; exact HO4.out.mono (Nat.le_trans HB2.out.size HB.out.size))
      have HBN := Lib.hid (belows_then HB.out HB.out.size HB4.out)
      go_wp2_with fail
      go_roundw
      case rel => exact ⟨n + 1, _, rfl, by omega, by go_num, HON.out, HBN.out⟩
      case measure => simp [intOf]; omega
    · have hown := HO.out
      rw [take_all hn hlt] at hown hrl
      have HBW := Lib.hid (HB2.out.trans (HB.out.mono HB2.out.size))
      obtain ⟨oa, oc, rfl, _, _, hos⟩ := hown.slice
      have HPL := Lib.hid (r10Plain_any (refS ls) oa oc wr hos (by omega))
      obtain ⟨q, ok, hq⟩ : ∃ q ok, plainT (refS ls) = (q, ok) := ⟨_, _, rfl⟩
      have hpb := HPB.out
      rw [hq] at HPL hpb
      have HQ := Lib.hid hpb
      clear hown hos hq hpb HPB HO
      simp only at HPL HQ
      go_wp2_with fail
      refine HPL.out.mono ?_
      rintro en w5 ⟨v5, rfl, ho, hb⟩
      have HB5 := Lib.hid (belows_then HBW.out HBW.out.size hb)
      have HO5 := Lib.hid (ho.mono HBW.out.size)
      clear ho hb
      cases ok
      · go_wp2_with fail
        go_ret2
        unfold BalPost
        rw [HQ.out]
        have hz : q = [] := by
          have h := congrArg Prod.fst HQ.out
          have h2 := congrArg Prod.snd HQ.out
          rcases balT_cases J e f t with hc | hc | ⟨_, _, hc⟩
          · rw [hc] at h; exact h.symm
          · rw [hc] at h; exact h.symm
          · rw [hc] at h2; cases h2
        rw [hz]
        exact ⟨_, rfl, OwnL.nil _ _, HB5.out⟩
      · go_wp2_with fail
        go_ret2
        unfold BalPost
        rw [HQ.out]
        exact ⟨_, rfl, HO5.out, HB5.out⟩
end Go.Proofs.YtbgkladgeijgdaaGreat


/- The document's balances at every entity and periods. -/
set_option linter.unusedVariables false
set_option linter.unusedSimpArgs false
namespace Go.Proofs.YtbgkladgeijgdaaGreat
open Go.RowKit Go.Maps Go.Deep

theorem OwnL.isSl {P : Program} {e : TypeId} {α : Type} {T : Ty P e α} {w : World} {base : Nat} {v : Value} {xs : List α} (h : OwnL T w base v xs) : ∃ a c, v = .slice a xs.length c := by
  obtain ⟨a, c, h, _⟩ := h.slice
  exact ⟨a, c, h⟩

set_option maxHeartbeats 4000000 in
theorem r10Right_any (e f t : Int) {b : Bool} (h : rightB e f t = b) (w : World) : Calls Tryz.prog 78 #[.int .i64 e, .int .i64 f, .int .i64 t] w fun en w' => en = .returned (.bool b) ∧ Below w.heap.size w w' := by
  by_cases h1 : 1 ≤ e
  · by_cases h2 : e ≤ 9
    · cases hf : monthOk f
      · obtain rfl : b = false := by rw [← h]; unfold rightB; simp [hf]
        have HF := Lib.hid hf
        clear h hf
        go_enter Tryz.func78, Tryz.ntmps78
        go_wp2_with fail
        refine (ref_valid_is f HF.out _).mono ?_
        rintro en w1 ⟨rfl, hb⟩
        have HB := Lib.hid hb
        clear hb
        go_wp2_with fail
        go_ret
        exact ⟨rfl, HB.out⟩
      · cases ht : monthOk t
        · obtain rfl : b = false := by rw [← h]; unfold rightB; simp [ht]
          have HF := Lib.hid hf
          have HT := Lib.hid ht
          clear h hf ht
          go_enter Tryz.func78, Tryz.ntmps78
          go_wp2_with fail
          refine (ref_valid_is f HF.out _).mono ?_
          rintro en w1 ⟨rfl, hb⟩
          have HB := Lib.hid hb
          clear hb
          go_wp2_with fail
          refine (ref_valid_is t HT.out _).mono ?_
          rintro en w2 ⟨rfl, hb⟩
          have HB2 := Lib.hid (belows_then HB.out HB.out.size hb)
          clear hb
          go_wp2_with fail
          go_ret
          exact ⟨rfl, HB2.out⟩
        · have hb : decide (f ≤ t) = b := by rw [← h]; unfold rightB entB; simp [h1, h2, hf, ht]
          have HF := Lib.hid hf
          have HT := Lib.hid ht
          clear h hf ht
          cases b
          · have hlt : t < f := by simpa using hb
            clear hb
            go_enter Tryz.func78, Tryz.ntmps78
            go_wp2_with fail
            refine (ref_valid_is f HF.out _).mono ?_
            rintro en w1 ⟨rfl, hb⟩
            have HB := Lib.hid hb
            clear hb
            go_wp2_with fail
            refine (ref_valid_is t HT.out _).mono ?_
            rintro en w2 ⟨rfl, hb⟩
            have HB2 := Lib.hid (belows_then HB.out HB.out.size hb)
            clear hb
            go_wp2_with fail
            go_ret
            exact ⟨by have h : decide (f ≤ t) = false := (by simp; omega); simp [h], HB2.out⟩
          · exact r10Right_is e f t h1 h2 HF.out HT.out (by simpa using hb) w
    · have h2' : 9 < e := by omega
      obtain rfl : b = false := by rw [← h]; unfold rightB entB; simp; omega
      clear h
      go_enter Tryz.func78, Tryz.ntmps78
      go_wp2_with fail
      go_ret
      exact ⟨rfl, Below.refl _ _⟩
  · have h1' : e < 1 := by omega
    obtain rfl : b = false := by rw [← h]; unfold rightB entB; simp; omega
    clear h
    go_enter Tryz.func78, Tryz.ntmps78
    go_wp2_with fail
    go_ret
    exact ⟨rfl, Below.refl _ _⟩

set_option maxHeartbeats 4000000 in
theorem r10Balances_all (J : List Jn) (a : Option Addr) (cap : Nat) (e f t : Int) (w : World) {F : Nat → Prop} (hs : Sl tJn w F a J) (hV : ValJ J) :
    Calls Tryz.prog 18 #[.slice a J.length cap, .int .i64 e, .int .i64 f, .int .i64 t] w (BalPost w (balT J e f t)) := by
  cases hr : rightB e f t
  · have HR := Lib.hid (r10Right_any e f t hr w)
    have HBT : Hid (balT J e f t = ([], 1)) := Lib.hid (by unfold balT; simp [hr])
    clear hr hs hV
    go_enter Tryz.func18, Tryz.ntmps18
    go_wp2_with fail
    refine HR.out.mono ?_
    rintro en w1 ⟨rfl, hb⟩
    have HB1 := Lib.hid hb
    clear hb HR
    go_wp2_with fail
    go_ret2
    unfold BalPost
    rw [HBT.out]
    exact ⟨_, rfl, OwnL.nil _ _, HB1.out⟩
  · rcases right_cases hr with ⟨h, _⟩ | ⟨_, h1, h2, h3, h4⟩
    · cases h
    · have h5 : monthOk f = true ∧ monthOk t = true := by simpa using h3
      exact r10Balances_any J a cap e f t w hs hV h1 h2 h5.1 h5.2 h4
end Go.Proofs.YtbgkladgeijgdaaGreat
