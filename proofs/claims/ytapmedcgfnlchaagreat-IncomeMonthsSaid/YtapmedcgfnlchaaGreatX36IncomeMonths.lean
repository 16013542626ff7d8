/- The document's Net, Balances. -/
import Derived.Test.YtapmedcgfnlchaaGreatX23IncomeMonths
import Derived.Test.YtapmedcgfnlchaaGreatX35IncomeMonths
import Derived.Deep.RegionHeld3
import Derived.Test.YtapmedcgfnlchaaGreatX27IncomeMonths
set_option linter.unusedVariables false
set_option linter.unusedSimpArgs false
namespace Go.Proofs.YtapmedcgfnlchaaGreat
open Go.RowKit Go.Maps Go.Deep

set_option maxHeartbeats 8000000 in
set_option maxRecDepth 100000 in
theorem r10Net_any (r : List Ac) (ra : Option Addr) (rc : Nat) (l : List (Int × Int)) (a : Option Addr) (cap : Nat) (w : World) {F G : Nat → Prop} (hr : Sl tAc w G ra r) (hrl : r.length ≤ maxLen) (hs : Sl tBal w F a l) (hl : l.length ≤ 1000) (hfit : ∀ x ∈ l, fitsB x.2 = true) :
    Calls Tryz.prog 13 #[.slice ra r.length rc, .slice a l.length cap] w fun en w' => en = .returned (.tuple #[.int .i64 (netA r l), .int .i64 (netB r l), .bool (netF r l)]) ∧ Below w.heap.size w w' := by
  have HS := Lib.hid hs
  have HR := Lib.hid hr
  have HF := Lib.hid hfit
  have b1 := pickS_bd r 4 true l hfit
  have b2 := pickS_bd r 5 false l hfit
  have HP := Lib.hid (r10Pick_any r ra rc l a cap 4 true w hr hrl hs hl hfit)
  change _ ≤ netA r l ∧ netA r l ≤ _ at b1
  change _ ≤ netB r l ∧ netB r l ≤ _ at b2
  have HA : Hid (sumI ((pickS r l 4 true).map (·.2)) = netA r l) := Lib.hid rfl
  have HB : Hid (sumI ((pickS r l 5 false).map (·.2)) = netB r l) := Lib.hid rfl
  have HNF : Hid (netF r l = ((fitsB (netA r l) && fitsB (netB r l)) && fitsB (netA r l - netB r l))) := Lib.hid rfl
  rw [HA.out] at HP
  clear hr hs hfit HA
  generalize netF r l = q at *
  have hP5 : ∀ W, Below w.heap.size w W → Calls Tryz.prog 35 #[.slice ra r.length rc, .slice a l.length cap, .int .i64 5, .bool false] W fun en w' => ∃ v, en = .returned (.tuple #[v, .int .i64 (netB r l)]) ∧ OwnL tBal w' W.heap.size v (pickS r l 5 false) ∧ Below W.heap.size W w' := fun W hb => by
    have := r10Pick_any r ra rc l a cap 5 false W (Sl.keep (fun k hk _ => hb.block k hk) HR.out) hrl (Sl.keep (fun k hk _ => hb.block k hk) HS.out) hl HF.out
    rw [HB.out] at this
    exact this
  have HP5 := Lib.hid hP5
  clear hP5 HB
  generalize netA r l = x at *
  generalize netB r l = y at *
  have hw : IntKind.i64.wrap (x - y) = x - y := wrap_is (by omega) (by omega)
  go_enter Tryz.func13, Tryz.ntmps13
  go_wp2_with fail
  refine HP.out.mono ?_
  rintro en w1 ⟨v1, rfl, _, hb⟩
  have HB1 := Lib.hid hb
  clear hb
  go_wp2_with fail
  refine (HP5.out w1 HB1.out).mono ?_
  rintro en w2 ⟨v2, rfl, _, hb⟩
  have HB2 := Lib.hid (belows_then HB1.out HB1.out.size hb)
  clear hb HP HP5
  go_wp2_with fail
  refine (rfits_any x w2).mono ?_
  rintro en w3 ⟨rfl, rfl⟩
  cases hx : fitsB x
  · have HQ : Hid (q = false) := Lib.hid (by rw [HNF.out, hx]; rfl)
    clear hx
    go_wp2_with fail
    refine bodyPost_ret (v := .tuple #[.int .i64 x, .int .i64 y, .bool false]) (by simp [results, Tryz.results13, go_sem]) rfl ?_
    rw [HQ.out]
    exact ⟨rfl, HB2.out⟩
  · have HX := Lib.hid hx
    clear hx
    go_wp2_with fail
    refine (rfits_any y w3).mono ?_
    rintro en w4 ⟨rfl, rfl⟩
    cases hy : fitsB y
    · have HQ : Hid (q = false) := Lib.hid (by rw [HNF.out, HX.out, hy]; rfl)
      clear hy
      go_wp2_with fail
      refine bodyPost_ret (v := .tuple #[.int .i64 x, .int .i64 y, .bool false]) (by simp [results, Tryz.results13, go_sem]) rfl ?_
      rw [HQ.out]
      exact ⟨rfl, HB2.out⟩
    · have HQ : Hid (q = fitsB (x - y)) := Lib.hid (by rw [HNF.out, HX.out, hy]; rfl)
      clear hy
      go_wp2_with fail
      refine (rfits_any (x - y) w4).mono ?_
      rintro en w5 ⟨rfl, rfl⟩
      go_wp2_with fail
      refine bodyPost_ret (v := .tuple #[.int .i64 x, .int .i64 y, .bool (fitsB (x - y))]) (by simp [results, Tryz.results13, go_sem]) rfl ?_
      rw [HQ.out]
      exact ⟨rfl, HB2.out⟩

theorem plain_bal {J : List Jn} (hV : ValJ J) {e f t : Int} (hr : rightB e f t = true) : (balT J e f t = ((plainT (refS (linesOf J e f t))).1, if (plainT (refS (linesOf J e f t))).2 then 0 else 2)) := by
  rw [ref_bal hV]
  unfold balT
  rw [hr]
  cases (accR J e f t).all (fun x => fitsB x.2) <;> rfl

set_option maxHeartbeats 16000000 in
set_option maxRecDepth 100000 in
theorem r10Balances_any (J : List Jn) (a : Option Addr) (cap : Nat) (e f t : Int) (w : World) {F : Nat → Prop} (hs : Sl tJn w F a J) (hV : ValJ J) (h1 : 1 ≤ e) (h2 : e ≤ 9) (hf : monthOk f = true) (ht : monthOk t = true) (hft : f ≤ t) :
    Calls Tryz.prog 12 #[.slice a J.length cap, .int .i64 e, .int .i64 f, .int .i64 t] w (BalPost w (balT J e f t)) := by
  have hr : rightB e f t = true := by
    unfold rightB entB
    simp [h1, h2, hf, ht, hft]
  have HPB := Lib.hid (plain_bal hV hr)
  have HR := Lib.hid (r10Right_is e f t h1 h2 hf ht hft w)
  have HS := Lib.hid hs
  have HV := Lib.hid hV
  have HAM := Lib.hid (linesOf_amt hV e f t)
  have hln := linesOf_len hV.good (by have := hV.len; omega) e f t
  clear hs hV hf ht hr h1 h2 hft
  go_enter Tryz.func12, Tryz.ntmps12
  go_wp2_with fail
  refine HR.out.mono ?_
  rintro en w1 ⟨rfl, hb⟩
  have HB1 := Lib.hid hb
  clear hb HR
  go_wp2_with fail
  refine (r10Lines_any J a cap e f t w1 (Sl.keep (fun k hk _ => HB1.out.block k hk) HS.out) HV.out.good (by have := HV.out.len; omega)).mono ?_
  rintro en w2 ⟨v, rfl, ho, hb⟩
  have HB2 := Lib.hid (belows_then HB1.out HB1.out.size hb)
  obtain ⟨ls, hls⟩ : ∃ ls, linesOf J e f t = ls := ⟨_, rfl⟩
  rw [hls] at ho HPB HAM hln
  obtain ⟨la, lc, rfl, _, _, hsl⟩ := ho.slice
  have HSL := Lib.hid hsl
  clear hb hls ho hsl HB1 HS HV
  have hl' : ls.length ≤ 9223372036854775807 := by omega
  go_wp2_with fail
  go_loopw [10, 12] (fun vo vi wr => ∃ (n : Nat) (vx : Value), vx = vo ∧ n ≤ ls.length ∧ vi = .int .i64 n ∧ OwnL tBal wr w.heap.size vx (refS (ls.take n)) ∧ Below w2.heap.size w2 wr) (fun _ vi _ => ls.length - (intOf vi).toNat)
  case atStart => exact ⟨0, _, rfl, Nat.zero_le _, rfl, OwnL.nil _ _, Below.refl _ _⟩
  case round =>
    obtain ⟨n, vo, rfl, hn, rfl, ho, hb⟩ := hrel
    have HO := Lib.hid ho
    have HB := Lib.hid hb
    clear ho hb
    have hrl : (refS (ls.take n)).length ≤ 8000 := by
      have := (refS_all _ (ls.take n) rfl).2.2
      rw [List.length_take] at this
      omega
    by_cases hlt : n < ls.length
    · obtain ⟨ad, rfl, _, hadl, hc0, hc1, hc2, hgx⟩ := ln_at (Sl.keep (fun k hk _ => HB.out.block k hk) HSL.out) n hlt
      have HN := Lib.hid (refS_succ ls n hlt)
      have hmx := HAM.out _ (List.getElem_mem hlt)
      have HRB : Hid (∀ x ∈ refS (ls.take n), -8000000000000000000 ≤ x.2 ∧ x.2 ≤ 8000000000000000000) := Lib.hid (refS_bd (fun x hx => HAM.out x (List.mem_of_mem_take hx)) (by rw [List.length_take]; omega))
      generalize ls[n] = x at *
      obtain ⟨oa, oc, rfl, _, _, hos⟩ := HO.out.slice
      have HKA : Hid (I64 x.acc) := Lib.hid hgx.1
      have hcell := And.intro hc0 hc1
      have HCE : Hid (∀ W, Below wr.heap.size wr W → (W.cell? (ad.add (n * 3)) = some (.int .i64 x.acc) ∧ W.cell? ⟨(ad.add (n * 3)).block, (ad.add (n * 3)).off + 1, none⟩ = some (.int .i64 x.amt))) := Lib.hid (fun W hb => by
        have hbk : W.heap[(ad.add (n * 3)).block]? = wr.heap[(ad.add (n * 3)).block]? := by rw [add_block]; exact hb.block _ hadl
        exact ⟨by rw [← hcell.1]; exact World.cell?_of_block (w := wr) hbk, by rw [← hcell.2]; exact World.cell?_of_block (w := wr) hbk⟩)
      have HPU := Lib.hid (r10Put_any (refS (ls.take n)) oa oc x.acc x.amt wr.drew (Sl.keep (w := wr) (w' := wr.drew) (fun k hk _ => rfl) hos) (by omega) HKA.out hmx.1 hmx.2 HRB.out)
      have HBD : Hid (Below wr.heap.size wr wr.drew) := Lib.hid (Below.drew (Below.refl _ _))
      clear hos hgx hmx hcell
      go_wp2_with fail
      go_region_held3 (fun w' => w'.cell? (ad.add (n * 3)) = some (.int .i64 x.acc) ∧ w'.cell? ⟨(ad.add (n * 3)).block, (ad.add (n * 3)).off + 1, none⟩ = some (.int .i64 x.amt)) (first | with_reducible exact HCE.out _ HB4.out | with_reducible exact HCE.out _ HBD.out) ((go_at_call 33; refine HPU.out.mono ?_; rintro en w4 ⟨v4, rfl, ho, hb⟩; have HB4 : Hid (Below wr.heap.size wr w4) := Lib.hid (belows_then HBD.out HBD.out.size hb); have HO4 := Lib.hid ho; clear ho hb))
      have HON : Hid (OwnL tBal w4 w.heap.size v4 (refS (ls.take (n + 1)))) := Lib.hid (by rw [HN.out]; exact HO4.out.mono (Nat.le_trans HB2.out.size HB.out.size))
      have HBN := Lib.hid (belows_then HB.out HB.out.size HB4.out)
      go_wp2_with fail
      go_roundw
      case rel => exact ⟨n + 1, _, rfl, by omega, by go_num, HON.out, HBN.out⟩
      case measure => simp [intOf]; omega
    · have hown := HO.out
      rw [take_all hn hlt] at hown hrl
      have HBW := Lib.hid (HB2.out.trans (HB.out.mono HB2.out.size))
      obtain ⟨oa, oc, rfl, _, _, hos⟩ := hown.slice
      have HPL := Lib.hid (r10Plain_any (refS ls) oa oc wr hos (by omega))
      obtain ⟨q, ok, hq⟩ : ∃ q ok, plainT (refS ls) = (q, ok) := ⟨_, _, rfl⟩
      have hpb := HPB.out
      rw [hq] at HPL hpb
      have HQ := Lib.hid hpb
      clear hown hos hq hpb HPB HO
      simp only at HPL HQ
      go_wp2_with fail
      refine HPL.out.mono ?_
      rintro en w5 ⟨v5, rfl, ho, hb⟩
      have HB5 := Lib.hid (belows_then HBW.out HBW.out.size hb)
      have HO5 := Lib.hid (ho.mono HBW.out.size)
      clear ho hb
      cases ok
      · go_wp2_with fail
        go_ret2
        unfold BalPost
        rw [HQ.out]
        have hz : q = [] := by
          have h := congrArg Prod.fst HQ.out
          have h2 := congrArg Prod.snd HQ.out
          rcases balT_cases J e f t with hc | hc | ⟨_, _, hc⟩
          · rw [hc] at h; exact h.symm
          · rw [hc] at h; exact h.symm
          · rw [hc] at h2; cases h2
        rw [hz]
        exact ⟨_, rfl, OwnL.nil _ _, HB5.out⟩
      · go_wp2_with fail
        go_ret2
        unfold BalPost
        rw [HQ.out]
        exact ⟨_, rfl, HO5.out, HB5.out⟩
end Go.Proofs.YtapmedcgfnlchaaGreat


/- term: months behind a month; all months from one to another; lists of numbers that are alike. -/
set_option linter.unusedVariables false
set_option linter.unusedSimpArgs false
namespace Go.Proofs.YtapmedcgfnlchaaGreat
open Go.RowKit Go.Maps Go.Deep

theorem mvalid_is (m : Int) {b : Bool} (h : monthOk m = b) (w : World) : Calls Tryz.prog 56 #[.int .i64 m] w fun e w' => e = .returned (.bool b) ∧ Below w.heap.size w w' := by
  have := month_valid m w
  rw [h] at this
  exact this
set_option maxHeartbeats 2000000 in
theorem on_is (m n : Int) (h0 : 0 ≤ m) (h1 : 0 ≤ n) (h2 : m + n ≤ 1199) (w : World) : Calls Tryz.prog 57 #[.int .i64 m, .int .i64 n] w fun e w' => e = .returned (.tuple #[.int .i64 (m + n), .int .i64 0]) ∧ Below w.heap.size w w' := by
  have HV : Hid (monthOk m = true) := Lib.hid (by unfold monthOk; simp; omega)
  have w1 : IntKind.i64.wrap (-m) = -m := wrap_is (by omega) (by omega)
  have w2 : IntKind.i64.wrap (1199 - m) = 1199 - m := wrap_is (by omega) (by omega)
  have w3 : IntKind.i64.wrap (m + n) = m + n := wrap_is (by omega) (by omega)
  have d1 : ¬ n < -m := by omega
  have d2 : ¬ 1199 - m < n := by omega
  go_enter Tryz.func57, Tryz.ntmps57
  go_wp2_with fail
  refine (mvalid_is m HV.out w).mono ?_
  rintro en w1' ⟨rfl, hb⟩
  have HB := Lib.hid hb
  clear hb
  go_wp2_with fail
  go_ret2
  exact ⟨by first | rfl | simp [w3], HB.out⟩

def spanL (f : Int) (n : Nat) : List Int := (List.range n).map (fun (k : Nat) => f + (k : Int))
theorem spanL_succ (f : Int) (n : Nat) : spanL f (n + 1) = spanL f n ++ [f + (n : Int)] := by
  unfold spanL
  rw [List.range_succ, List.map_append]
  rfl
theorem valid2' (x y : Int) (b : Nat) (W : World) (hb : W.heap[b]? = some (.cells #[.int .i64 x, .int .i64 y] 3 (0, 0))) (wx : I64 x) (wy : I64 y) (h1 : monthOk x = true) (h2 : monthOk y = true) :
    Calls Tryz.prog 27 #[.slice (some ⟨b, 0, none⟩) 2 2] W fun e w' => e = .returned (.bool true) ∧ Below W.heap.size W w' := by
  have := term_valid (some ⟨b, 0, none⟩) 2 [x, y] W (by simp) (sl_two x y b W hb wx wy)
  have e1 : [x, y].all monthOk = true := by simp [h1, h2]
  rw [e1] at this
  exact this

set_option maxHeartbeats 8000000 in
set_option maxRecDepth 100000 in
theorem span_is (f : Int) (N : Nat) (h0 : 0 ≤ f) (h1 : f + (N : Int) ≤ 1199) (w : World) : Calls Tryz.prog 28 #[.int .i64 f, .int .i64 (f + (N : Int))] w fun e w' => ∃ v, e = .returned v ∧ OwnL tInt w' w.heap.size v (spanL f (N + 1)) ∧ Below w.heap.size w w' := by
  obtain ⟨i0, hi, hz0, hz1, hz2⟩ := info_parts infoInt
  obtain ⟨t, ht⟩ : ∃ t, f + (N : Int) = t := ⟨_, rfl⟩
  have HV := Lib.hid (valid2' f t w.heap.size (w.alloc (.cells #[.int .i64 f, .int .i64 t] 3)) (blk_new w _) (i64_ofB (by omega) (by omega)) (i64_ofB (by omega) (by omega)) (by unfold monthOk; simp; omega) (by unfold monthOk; simp; omega))
  have w1 : IntKind.i64.wrap (t - f) = t - f := wrap_is (by omega) (by omega)
  have w2 : IntKind.i64.wrap (t - f + 1) = t - f + 1 := wrap_is (by omega) (by omega)
  have hmx : max (t - f + 1) 0 = ((N + 1 : Nat) : Int) := by omega
  have hmx' : max 0 (t - f + 1) = ((N + 1 : Nat) : Int) := by omega
  rw [ht]
  go_enter Tryz.func28, Tryz.ntmps28
  go_wp2_with fail
  refine HV.out.mono ?_
  rintro en w1' ⟨rfl, hb⟩
  have HB := Lib.hid (belows_then ((Below.refl w.heap.size w).alloc (Nat.le_refl _) (.cells #[.int .i64 f, .int .i64 t] 3)) (by simp) hb)
  clear hb HV
  go_wp2_with fail
  go_loopw [5, 22] (fun vo vi wr => ∃ (n : Nat) (vx : Value), vx = vo ∧ n ≤ N + 1 ∧ vi = .int .i64 n ∧ OwnL tInt wr w.heap.size vx (spanL f n) ∧ Below w.heap.size w wr) (fun _ vi _ => N + 1 - (intOf vi).toNat)
  case atStart => exact ⟨0, _, rfl, Nat.zero_le _, rfl, OwnL.nil _ _, HB.out⟩
  case round =>
    clear HB
    obtain ⟨n, vo, rfl, hn, rfl, ho, hb⟩ := hrel
    have HO := Lib.hid ho
    have HB := Lib.hid hb
    clear ho hb
    by_cases hlt : n < N + 1
    · have hlt' : (n : Int) < (N : Int) + 1 := by omega
      have HSP := Lib.hid (spanL_succ f n)
      have hlen : (spanL f n).length ≤ 1200 := by unfold spanL; rw [List.length_map, List.length_range]; omega
      go_wp2_with fail
      refine (on_is f n h0 (by omega) (by omega) wr).mono ?_
      rintro en w2 ⟨rfl, hb⟩
      have HB2 := Lib.hid (belows_then HB.out HB.out.size hb)
      have HO2 := Lib.hid (HO.out.below hb)
      have HOA := Lib.hid (HO2.out.alloc (.cells #[.int .i64 (f + (n : Int))] 3))
      have HBA := Lib.hid (HB2.out.alloc HB2.out.size (.cells #[.int .i64 (f + (n : Int))] 3))
      have HSL : Hid (Sl tInt (w2.alloc (.cells #[.int .i64 (f + (n : Int))] 3)) (fun kk => some kk ≠ vo.ownBlock ∧ kk < (w2.alloc (.cells #[.int .i64 (f + (n : Int))] 3)).heap.size) (some ⟨w2.heap.size, 0, none⟩) [f + (n : Int)]) := Lib.hid (sl_oneI (blk_new w2 _) ⟨fun e => by have := (HO2.out.lt _ e.symm).2; omega, by simp⟩ (i64_ofB (by omega) (by omega)))
      have h63 : (spanL f n).length + [f + (n : Int)].length ≤ maxLen := by simp only [List.length_cons, List.length_nil]; unfold maxLen; omega
      have hby : ((spanL f n).length + [f + (n : Int)].length) * 8 ≤ 140737488355328 := by simp only [List.length_cons, List.length_nil]; omega
      clear hb
      go_wp2_with (at_builtin; refine wp_app (T := tInt) rfl _ _ 32 rfl i0 (.int .i64 0) 8 Tryz.underlying32 hi hz0 hz1 hz2 rfl (by decide) int_one w.heap.size vo (spanL f n) rfl HOA.out ⟨w2.heap.size, 0, none⟩ 1 [f + (n : Int)] rfl HSL.out h63 hby HBA.out.size ?_; intro v3 w3 hown hg hnil hat; have HO3 := Lib.hid hown; have HB3 := Lib.hid (Below.grown HBA.out hg HBA.out.size (fun k e => (HOA.out.lt k e).1)); clear hown hg hnil hat)
      go_roundw
      case rel => exact ⟨n + 1, _, rfl, by omega, by go_num, by rw [HSP.out]; exact HO3.out, HB3.out⟩
      case measure => simp [intOf]; omega
    · obtain rfl : n = N + 1 := by omega
      go_wp2_with fail
      go_ret
      exact ⟨_, rfl, HO.out, HB.out⟩

set_option maxHeartbeats 2000000 in
set_option maxRecDepth 100000 in
theorem sbInts_is (l : List Int) (a b : Option Addr) (ca cb : Nat) (w : World) {F G : Nat → Prop} (hs : Sl tInt w F a l) (ht : Sl tInt w G b l) (hl : l.length ≤ maxLen) :
    Calls Tryz.prog 14 #[.slice a l.length ca, .slice b l.length cb] w fun e w' => e = .returned (.bool true) ∧ Below w.heap.size w w' := by
  have HS := Lib.hid hs
  have HT := Lib.hid ht
  have hl' : l.length ≤ 9223372036854775807 := by unfold maxLen at hl; omega
  clear hs ht hl
  go_enter Tryz.func14, Tryz.ntmps14
  go_wp2_with fail
  go_loopw [5] (fun vi wr => ∃ n : Nat, n ≤ l.length ∧ vi = .int .i64 n ∧ Below w.heap.size w wr) (fun vi _ => l.length - (intOf vi).toNat)
  case atStart => exact ⟨0, Nat.zero_le _, rfl, Below.refl _ _⟩
  case round =>
    obtain ⟨n, hn, rfl, hb⟩ := hrel
    have HB := Lib.hid hb
    clear hb
    by_cases hlt : n < l.length
    · obtain ⟨ad, rfl, hadl, hc0⟩ := int_at (Sl.keep (fun k hk _ => HB.out.block k hk) HS.out) n hlt
      obtain ⟨bd, rfl, hbdl, hd0⟩ := int_at (Sl.keep (fun k hk _ => HB.out.block k hk) HT.out) n hlt
      go_wp2_with fail
      go_quiet (fail)
      go_wp2_with fail
      go_roundw
      case rel => exact ⟨n + 1, by omega, by go_num, below_drewN HB.out _⟩
      case measure => simp [intOf]; omega
    · go_wp2_with fail
      go_ret
      exact ⟨rfl, HB.out⟩
end Go.Proofs.YtapmedcgfnlchaaGreat
