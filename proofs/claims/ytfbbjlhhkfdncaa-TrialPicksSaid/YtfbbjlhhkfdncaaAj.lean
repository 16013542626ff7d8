
/- TrialPicks: of every balances those of kinds, in their order; all kinds together are all whose accounts are there. -/
import Derived.Test.YtfbbjlhhkfdncaaAk
import Derived.Test.YtfbbjlhhkfdncaaAh
set_option linter.unusedVariables false
set_option linter.unusedSimpArgs false
namespace Go.Proofs.Ytfbbjlhhkfdncaa
open Go.RowKit Go.Maps Go.Deep

def tAcsP : Ty Try.prog 59 (List Ac) := tAcs
def tIntsP : Ty Try.prog 60 (List Int) := Ty.slice Try.underlying60 (by kernel_rfl) tInt (by decide)
def posK (r : List Ac) (x : Int × Int) : Bool := decide (0 < kindA r x.1)

set_option maxHeartbeats 2000000 in
set_option maxRecDepth 100000 in
theorem picks_early (a : Value) (l : List (Int × Int)) (ks : List Int) (b c : Option Addr) (cb cc : Nat) (w : World) (hl : l.length ≤ maxLen) (hk : ks.length ≤ maxLen) (h : 40 < l.length ∨ l.length ≤ 40 ∧ 10 < ks.length) :
    Calls Try.prog 7 #[a, .slice b l.length cb, .slice c ks.length cc] w fun en w' => en = .returned (.bool true) ∧ Below w.heap.size w w' := by
  have hl' : l.length ≤ 9223372036854775807 := by unfold maxLen at hl; omega
  have hk' : ks.length ≤ 9223372036854775807 := by unfold maxLen at hk; omega
  rcases h with h | ⟨h1, h⟩
  all_goals
    go_enter Try.func7, Try.ntmps7
    go_wp2_with fail
    refine (alive10 _).mono ?_
    rintro en w3 ⟨rfl, hb⟩
    go_wp2_with fail
    go_ret
    exact ⟨rfl, hb⟩

set_option maxHeartbeats 16000000 in
set_option maxRecDepth 100000 in
theorem picks_main (rows : List Ac) (l : List (Int × Int)) (ks : List Int) (a b c : Option Addr) (ca cb cc : Nat) (w : World) {F G H : Nat → Prop} (hs : Sl tAc w F a rows) (ht : Sl tBal w G b l) (hu : Sl tInt w H c ks) (hr : rows.length ≤ maxLen) (hl : l.length ≤ 40) (hk : ks.length ≤ 10) (hnb : b = none → l = [] ∧ cb = 0) :
    Calls Try.prog 7 #[.slice a rows.length ca, .slice b l.length cb, .slice c ks.length cc] w fun en w' => en = .returned (.bool true) ∧ Below w.heap.size w w' := by
  have HS := Lib.hid hs
  have HT := Lib.hid ht
  have HU := Lib.hid hu
  have HR := Lib.hid hr
  have HNB := Lib.hid hnb
  obtain ⟨i0, hi, hz0, hz1, hz2⟩ := info_parts infoBal
  clear hs ht hu hr hnb
  go_enter Try.func7, Try.ntmps7
  go_wp2_with fail
  refine (alive10 _).mono ?_
  rintro en w3 ⟨rfl, hb⟩
  have HB3 := Lib.hid hb
  have HS3 := Lib.hid (Sl.keep (fun k hk _ => hb.block k hk) HS.out)
  clear hb
  go_wp2_with fail
  refine (setA_any rows a ca w3 HS3.out HR.out).mono ?_
  rintro en w4 ⟨r, g, g2, ra, rc, jv, mb, rfl, hg, hrl, hc, hrs, hb⟩
  have HB4 := Lib.hid (belows_then HB3.out HB3.out.size hb)
  have HG := Lib.hid hg
  have HC4 := Lib.hid hc
  have HR4 := Lib.hid hrs
  have HT4 := Lib.hid (Sl.keep (fun k hk _ => HB4.out.block k hk) HT.out)
  clear hb hg hc hrs
  go_wp2_with fail
  refine (lentBal_sl l b cb w4 HT4.out (by omega) HNB.out).mono ?_
  rintro en w5 ⟨v5, rfl, hle, hb⟩
  have HB5 := Lib.hid (belows_then HB4.out HB4.out.size hb)
  have HC5 := Lib.hid (HC4.out.below hb)
  have HR5 := Lib.hid (Sl.keep (fun k hk _ => hb.block k hk) HR4.out)
  have HT5 := Lib.hid (Sl.keep (fun k hk _ => HB5.out.block k hk) HT.out)
  have HU5 := Lib.hid (Sl.keep (fun k hk _ => HB5.out.block k hk) HU.out)
  have HL5 := Lib.hid hle
  obtain ⟨mg, mc, rfl, hms⟩ := hle.sl
  have HMS := Lib.hid hms
  clear hb hle hms
  go_wp2_with fail
  go_loopw [13, 14, 15, 16] (fun vx vy vi vk wr => ∃ (n : Nat) (ux uy : Value), ux = vx ∧ uy = vy ∧ n ≤ l.length ∧ vi = .int .i64 n ∧ OwnL tBal wr w5.heap.size ux ((l.take n).filter (pickB r ks)) ∧ OwnL tBal wr w5.heap.size uy ((l.take n).filter (posK r)) ∧ ApartV ux uy ∧ Below w5.heap.size w5 wr) (fun _ _ vi _ _ => l.length - (intOf vi).toNat)
  case atStart => exact ⟨0, _, _, rfl, rfl, Nat.zero_le _, rfl, OwnL.nil _ _, OwnL.nil _ _, .inl rfl, Below.refl _ _⟩
  case round =>
    obtain ⟨n, vx, vy, rfl, rfl, hn, rfl, hox, hoy, hap, hb⟩ := hrel
    have HX := Lib.hid hox
    have HY := Lib.hid hoy
    have HAP := Lib.hid hap
    have HB := Lib.hid hb
    have hbs := hb.size
    clear hox hoy hap hb
    by_cases hlt : n < l.length
    · obtain ⟨ad, rfl, _, hadl, hc0, hc1, g0, g1⟩ := bal_at HT5.out n hlt
      have HXY := Lib.hid (fun h => filter_yes (pickB r ks) hlt h)
      have HXN := Lib.hid (fun h => filter_no (pickB r ks) hlt h)
      have HYY := Lib.hid (fun h => filter_yes (posK r) hlt h)
      have HYN := Lib.hid (fun h => filter_no (posK r) hlt h)
      have hnx : ((l.take n).filter (pickB r ks)).length ≤ 40 := by
        have := List.length_filter_le (pickB r ks) (l.take n)
        rw [List.length_take] at this
        omega
      have hny : ((l.take n).filter (posK r)).length ≤ 40 := by
        have := List.length_filter_le (posK r) (l.take n)
        rw [List.length_take] at this
        omega
      generalize l[n] = x at *
      obtain ⟨k, v⟩ := x
      simp only at hc0 hc1 g0 g1
      have G0 := Lib.hid g0
      have G1 := Lib.hid g1
      have HPW : Hid (pickB r ks (k, v) = ks.any (fun j => decide (0 < kindA r k) && j == kindA r k)) := Lib.hid (pick_want HG.out ks (k, v))
      have HPK : Hid (posK r (k, v) = decide (0 < kindA r k)) := Lib.hid rfl
      have HRW := Lib.hid (Sl.keep (fun k hk _ => HB.out.block k hk) HR5.out)
      have HE0 : Hid (∀ W : World, Below w5.heap.size w5 W → W.cell? (ad.add (n * 2)) = some (.int .i64 k)) := Lib.hid (fun W h => (h.cell (p := ad.add (n * 2)) (by rw [add_block]; exact hadl)).trans hc0)
      have HE1 : Hid (∀ W : World, Below w5.heap.size w5 W → W.cell? ⟨(ad.add (n * 2)).block, (ad.add (n * 2)).off + 1, none⟩ = some (.int .i64 v)) := Lib.hid (fun W h => (h.cell (p := ⟨(ad.add (n * 2)).block, (ad.add (n * 2)).off + 1, none⟩) (by show (ad.add (n * 2)).block < _; rw [add_block]; exact hadl)).trans hc1)
      have HEL : Hid (∀ W : World, Below w5.heap.size w5 W → ad.block < W.heap.size) := Lib.hid (fun W h => Nat.lt_of_lt_of_le hadl h.size)
      clear g0 g1 hc0 hc1 hadl
      have hc0 := HE0.out wr HB.out
      have hc1 := HE1.out wr HB.out
      have hadl := HEL.out wr HB.out
      go_wp2_with fail
      refine (r10kind_any r ra rc k wr HRW.out (by unfold maxLen; omega)).mono ?_
      rintro en wk ⟨rfl, hb⟩
      have HBK := Lib.hid (belows_then HB.out HB.out.size hb)
      have HXK := Lib.hid (HX.out.below hb)
      have HYK := Lib.hid (HY.out.below hb)
      have HUK := Lib.hid (Sl.keep (fun k hk _ => HBK.out.block k hk) HU5.out)
      have hd0 := HE0.out wk HBK.out
      have hd1 := HE1.out wk HBK.out
      have hdl := HEL.out wk HBK.out
      generalize kindA r k = K at *
      clear hb hc0 hc1 hadl
      go_wp2_with fail
      go_loopw [17, 18] (fun vn vj wi => ∃ m : Nat, m ≤ ks.length ∧ vj = .int .i64 m ∧ vn = .bool ((ks.take m).any (fun j => decide (0 < K) && j == K)) ∧ wi = wk) (fun _ vj _ => ks.length - (intOf vj).toNat)
      case atStart => exact ⟨0, Nat.zero_le _, rfl, rfl, rfl⟩
      case round =>
        obtain ⟨m, hm, rfl, rfl, hwi⟩ := hrel
        replace hwi := hwi.symm
        subst hwi
        by_cases hlm : m < ks.length
        · obtain ⟨bd, rfl, hbdl, he0⟩ := int_at HUK.out m hlm
          have HSU := Lib.hid (any_take_succ (fun j => decide (0 < K) && j == K) ks m hlm)
          generalize ks[m] = j at *
          generalize (ks.take m).any (fun j => decide (0 < K) && j == K) = cur at *
          have hcs : cur = true ∨ cur = false ∧ (K ≤ 0 ∨ 0 < K ∧ ((j == K) = true ∨ (j == K) = false)) := by
            cases cur
            · right; refine ⟨rfl, ?_⟩
              rcases Int.lt_or_le 0 K with h | h
              · right; refine ⟨h, ?_⟩
                cases j == K <;> simp
              · left; exact h
            · left; rfl
          rcases hcs with rfl | ⟨rfl, h1 | ⟨h1, h2 | h2⟩⟩
          · go_wp2_with fail
            go_roundw
            case rel => exact ⟨m + 1, by omega, by go_num, by rw [HSU.out]; simp, by first | rfl | trivial⟩
            case measure => simp [intOf]; omega
          · have hq : decide (0 < K) = false := by simp; omega
            go_wp2_with fail
            go_roundw
            case rel => exact ⟨m + 1, by omega, by go_num, by rw [HSU.out]; simp; omega, by first | rfl | trivial⟩
            case measure => simp [intOf]; omega
          · have hq : decide (0 < K) = true := by simp; omega
            go_wp2_with fail
            go_roundw
            case rel => exact ⟨m + 1, by omega, by go_num, by rw [HSU.out, h2, hq]; rfl, by first | rfl | trivial⟩
            case measure => simp [intOf]; omega
          · have hq : decide (0 < K) = true := by simp; omega
            go_wp2_with fail
            go_roundw
            case rel => exact ⟨m + 1, by omega, by go_num, by rw [HSU.out, h2, hq]; rfl, by first | rfl | trivial⟩
            case measure => simp [intOf]; omega
        · have hbit : (ks.take m).any (fun j => decide (0 < K) && j == K) = pickB r ks (k, v) := by rw [take_all hm hlm, HPW.out]
          have HKP : Hid (pickB r ks (k, v) = true → 0 < K) := Lib.hid (fun h => by
            rw [HPW.out, List.any_eq_true] at h
            obtain ⟨j, _, hj⟩ := h
            simp at hj
            exact hj.1)
          rw [hbit]
          clear hbit
          have h63x : ((l.take n).filter (pickB r ks)).length + [((k, v) : Int × Int)].length ≤ maxLen := by simp only [List.length_cons, List.length_nil]; unfold maxLen; omega
          have hbyx : (((l.take n).filter (pickB r ks)).length + [((k, v) : Int × Int)].length) * 16 ≤ 140737488355328 := by simp only [List.length_cons, List.length_nil]; omega
          have h63y : ((l.take n).filter (posK r)).length + [((k, v) : Int × Int)].length ≤ maxLen := by simp only [List.length_cons, List.length_nil]; unfold maxLen; omega
          have hbyy : (((l.take n).filter (posK r)).length + [((k, v) : Int × Int)].length) * 16 ≤ 140737488355328 := by simp only [List.length_cons, List.length_nil]; omega
          have HBA := Lib.hid (HBK.out.alloc HBK.out.size (.cells #[.int .i64 k, .int .i64 v] 52))
          have hsk := HBK.out.size
          by_cases hK : 0 < K
          · have hq : decide (0 < K) = true := by simpa using hK
            have HPY : Hid (posK r (k, v) = true) := Lib.hid (by rw [HPK.out]; exact hq)
            cases hin : pickB r ks (k, v)
            · have HIN := Lib.hid hin
              clear hin
              have HOY := Lib.hid (HYK.out.alloc (.cells #[.int .i64 k, .int .i64 v] 52))
              have HSL : Hid (Sl tBal (wk.alloc (.cells #[.int .i64 k, .int .i64 v] 52)) (fun kk => some kk ≠ vy.ownBlock ∧ kk < (wk.alloc (.cells #[.int .i64 k, .int .i64 v] 52)).heap.size) (some ⟨wk.heap.size, 0, none⟩) [(k, v)]) :=
                Lib.hid (sl_one2 tBal (x := (k, v)) rfl (blk_new wk _) ⟨fun e => by have := (HYK.out.lt _ e.symm).2; omega, by simp⟩ (bal_mk (k, v) G0.out G1.out))
              go_wp2_with (at_builtin; refine wp_app (T := tBal) rfl _ _ 50 rfl i0 (.agg #[.int .i64 0, .int .i64 0]) 16 Try.underlying50 hi hz0 hz1 hz2 rfl (by decide) bal_one w5.heap.size vy ((l.take n).filter (posK r)) rfl HOY.out ⟨wk.heap.size, 0, none⟩ 1 [(k, v)] rfl HSL.out h63y hbyy HBA.out.size ?_; intro v7 w7 hown hg hnil hat; have HO7 := Lib.hid hown; have HB7 := Lib.hid (Below.grown HBA.out hg HBA.out.size (fun k e => (HOY.out.lt k e).1)); have HX7 := Lib.hid ((HXK.out.alloc _).apartB hg HAP.out); have HA7 := Lib.hid (ApartV.step HAP.out (HXK.out.alloc (.cells #[.int .i64 k, .int .i64 v] 52)) hat); clear hown hg hnil hat)
              go_roundw
              case rel => exact ⟨n + 1, _, _, rfl, rfl, by omega, by go_num, by rw [HXN.out HIN.out]; exact HX7.out, by rw [HYY.out HPY.out]; exact HO7.out, HA7.out, HB7.out⟩
              case measure => simp [intOf]; omega
            · have HIN := Lib.hid hin
              clear hin
              have HOX := Lib.hid (HXK.out.alloc (.cells #[.int .i64 k, .int .i64 v] 52))
              have HSL : Hid (Sl tBal (wk.alloc (.cells #[.int .i64 k, .int .i64 v] 52)) (fun kk => some kk ≠ vx.ownBlock ∧ kk < (wk.alloc (.cells #[.int .i64 k, .int .i64 v] 52)).heap.size) (some ⟨wk.heap.size, 0, none⟩) [(k, v)]) :=
                Lib.hid (sl_one2 tBal (x := (k, v)) rfl (blk_new wk _) ⟨fun e => by have := (HXK.out.lt _ e.symm).2; omega, by simp⟩ (bal_mk (k, v) G0.out G1.out))
              go_wp2_with (first
                | (at_builtin; refine wp_app (T := tBal) rfl _ _ 50 rfl i0 (.agg #[.int .i64 0, .int .i64 0]) 16 Try.underlying50 hi hz0 hz1 hz2 rfl (by decide) bal_one w5.heap.size vx ((l.take n).filter (pickB r ks)) rfl HOX.out ⟨wk.heap.size, 0, none⟩ 1 [(k, v)] rfl HSL.out h63x hbyx HBA.out.size ?_; intro v6 w6 hown hg hnil hat; have HO6 := Lib.hid hown; have HB6 := Lib.hid (Below.grown HBA.out hg HBA.out.size (fun k e => (HOX.out.lt k e).1)); have HY6 := Lib.hid ((HYK.out.alloc (.cells #[.int .i64 k, .int .i64 v] 52)).apartB hg (ApartV.symm HAP.out)); have HA6 := Lib.hid (ApartV.symm (ApartV.step (ApartV.symm HAP.out) (HYK.out.alloc (.cells #[.int .i64 k, .int .i64 v] 52)) hat)); clear hown hg hnil hat hd0 hd1 hdl; have hd0 := HE0.out w6 HB6.out; have hd1 := HE1.out w6 HB6.out; have hdl := HEL.out w6 HB6.out; have HBA2 := Lib.hid (HB6.out.alloc HB6.out.size (.cells #[.int .i64 k, .int .i64 v] 52)); have HSL2 := Lib.hid (sl_one2 (w := w6.alloc (.cells #[.int .i64 k, .int .i64 v] 52)) (F := fun kk => some kk ≠ vy.ownBlock ∧ kk < (w6.alloc (.cells #[.int .i64 k, .int .i64 v] 52)).heap.size) tBal (x := (k, v)) rfl (blk_new w6 _) ⟨fun e => by have := (HY6.out.lt _ e.symm).2; omega, by simp⟩ (bal_mk (k, v) G0.out G1.out)))
                | (at_builtin; refine wp_app (T := tBal) rfl _ _ 50 rfl i0 (.agg #[.int .i64 0, .int .i64 0]) 16 Try.underlying50 hi hz0 hz1 hz2 rfl (by decide) bal_one w5.heap.size vy ((l.take n).filter (posK r)) rfl (HY6.out.alloc _) ⟨w6.heap.size, 0, none⟩ 1 [(k, v)] rfl HSL2.out h63y hbyy HBA2.out.size ?_; intro v7 w7 hown hg hnil hat; have HO7 := Lib.hid hown; have HB7 := Lib.hid (Below.grown HBA2.out hg HBA2.out.size (fun k e => (HY6.out.lt k e).1)); have HX7 := Lib.hid ((HO6.out.alloc (.cells #[.int .i64 k, .int .i64 v] 52)).apartB hg HA6.out); have HA7 := Lib.hid (ApartV.step HA6.out (HO6.out.alloc (.cells #[.int .i64 k, .int .i64 v] 52)) hat); clear hown hg hnil hat))
              go_roundw
              case rel => exact ⟨n + 1, _, _, rfl, rfl, by omega, by go_num, by rw [HXY.out HIN.out]; exact HX7.out, by rw [HYY.out HPY.out]; exact HO7.out, HA7.out, HB7.out⟩
              case measure => simp [intOf]; omega
          · have hq : decide (0 < K) = false := by simpa using hK
            have HPY : Hid (posK r (k, v) = false) := Lib.hid (by rw [HPK.out]; exact hq)
            have HIN : Hid (pickB r ks (k, v) = false) := Lib.hid (by
              cases h : pickB r ks (k, v)
              · rfl
              · exact absurd (HKP.out h) hK)
            rw [HIN.out]
            go_wp2_with fail
            go_roundw
            case rel => exact ⟨n + 1, _, _, rfl, rfl, by omega, by go_num, by rw [HXN.out HIN.out]; exact HXK.out, by rw [HYN.out HPY.out]; exact HYK.out, HAP.out, HBK.out⟩
            case measure => simp [intOf]; omega
    · have hx := HX.out
      have hy := HY.out
      rw [take_all hn hlt] at hx hy
      have hfl : (l.filter (pickB r ks)).length ≤ 40 := Nat.le_trans (List.length_filter_le _ _) hl
      have hfm : (l.filter (posK r)).length ≤ 40 := Nat.le_trans (List.length_filter_le _ _) hl
      have hall : l.filter (pickB r [1, 2, 3, 4, 5]) = l.filter (posK r) := List.filter_congr (fun x _ => pick_all HG.out x)
      have HALL := Lib.hid hall
      obtain ⟨xa, xc, rfl, _, _, hxs⟩ := hx.slice
      obtain ⟨ya, yc, rfl, _, _, hys⟩ := hy.slice
      have HXS := Lib.hid hxs
      have HYS := Lib.hid hys
      have hf1 : (l.filter (pickB r ks)).length ≤ maxLen := by unfold maxLen; omega
      have hf2 : (l.filter (posK r)).length ≤ maxLen := by unfold maxLen; omega
      have HMW := Lib.hid (Sl.keep (fun k hk _ => HB.out.block k hk) HMS.out)
      have HUW := Lib.hid (Sl.keep (fun k hk _ => HB.out.block k hk) HU5.out)
      have HCW := Lib.hid (HC5.out.below HB.out)
      clear hx hy hall hxs hys HX HY
      go_wp2_with fail
      refine (pick_any HCW.out l (some ⟨mg, 0, none⟩) mc ks c cc HMW.out (by omega) HUW.out (by unfold maxLen; omega)).mono ?_
      rintro en w6 ⟨v6, rfl, ho, hb⟩
      have HB6 := Lib.hid (belows_then HB.out HB.out.size hb)
      have HXS6 := Lib.hid (Sl.keep (fun k hk _ => hb.block k hk) HXS.out)
      have HYS6 := Lib.hid (Sl.keep (fun k hk _ => hb.block k hk) HYS.out)
      obtain ⟨pa, pc, rfl, _, _, hps⟩ := ho.slice
      have HPS := Lib.hid hps
      clear ho hb hps
      go_wp2_with fail
      refine (sameBal_is _ _ pa xa pc xc _ HPS.out HXS6.out hf1 hf1 rfl).mono ?_
      rintro en w7 ⟨rfl, hb⟩
      have HB7 := Lib.hid (belows_then HB6.out HB6.out.size hb)
      have HYS7 := Lib.hid (Sl.keep (fun k hk _ => hb.block k hk) HYS6.out)
      have HB8 := Lib.hid (HB7.out.alloc HB7.out.size (.cells #[.int .i64 1, .int .i64 2, .int .i64 3, .int .i64 4, .int .i64 5] 3))
      have HYS8 := Lib.hid (Sl.keep (fun k hk _ => Below.heap_alloc w7 (.cells #[.int .i64 1, .int .i64 2, .int .i64 3, .int .i64 4, .int .i64 5] 3) k hk) HYS7.out)
      have HK8 : Hid (Sl tInt (w7.alloc (.cells #[.int .i64 1, .int .i64 2, .int .i64 3, .int .i64 4, .int .i64 5] 3)) (fun _ => True) (some ⟨w7.heap.size, 0, none⟩) [1, 2, 3, 4, 5]) := Lib.hid (sl_intsB [1, 2, 3, 4, 5] (blk_new w7 _) (by decide))
      have HM8 := Lib.hid (Sl.keep (fun k hk _ => HB8.out.block k hk) HMS.out)
      have HC8 := Lib.hid (HC5.out.below HB8.out)
      clear hb
      go_wp2_with fail
      refine (pick_any HC8.out l (some ⟨mg, 0, none⟩) mc [1, 2, 3, 4, 5] (some ⟨w7.heap.size, 0, none⟩) 5 HM8.out (by omega) HK8.out (by decide)).mono ?_
      rintro en w9 ⟨v9, rfl, ho, hb⟩
      rw [HALL.out] at ho
      have HB9 := Lib.hid (belows_then HB8.out HB8.out.size hb)
      have HYS9 := Lib.hid (Sl.keep (fun k hk _ => hb.block k hk) HYS8.out)
      obtain ⟨qa, qc, rfl, _, _, hqs⟩ := ho.slice
      have HQS := Lib.hid hqs
      clear ho hb hqs
      go_wp2_with fail
      refine (sameBal_is _ _ qa ya qc yc _ HQS.out HYS9.out hf2 hf2 rfl).mono ?_
      rintro en w10 ⟨rfl, hb⟩
      have HB10 := Lib.hid (belows_then HB9.out HB9.out.size hb)
      have HB11 := Lib.hid (HB10.out.alloc HB10.out.size (.cells #[.int .i64 1, .int .i64 2, .int .i64 3] 3))
      have HM11 := Lib.hid (Sl.keep (fun k hk _ => HB11.out.block k hk) HMS.out)
      clear hb
      go_wp2_with fail
      refine (pick_nil _ l (some ⟨mg, 0, none⟩) mc [1, 2, 3] (some ⟨w10.heap.size, 0, none⟩) 3 HM11.out (by omega)).mono ?_
      rintro en w12 ⟨rfl, hb⟩
      have HB12 := Lib.hid (belows_then HB11.out HB11.out.size hb)
      have HT12 := Lib.hid (Sl.keep (fun k hk _ => HB12.out.block k hk) HT5.out)
      have HL12 := Lib.hid (HL5.out.below HB12.out)
      clear hb
      go_wp2_with fail
      refine (staysBal_any HL12.out b cb HT12.out).mono ?_
      rintro en w13 ⟨rfl, hb⟩
      have HB13 := Lib.hid (belows_then HB12.out HB12.out.size hb)
      clear hb
      go_wp2_with fail
      go_ret
      exact ⟨rfl, belows_then HB5.out HB5.out.size HB13.out⟩

theorem trialPicks_row (a0 : Option Addr) (len0 cap0 : Nat) (x0 : List Ac) (a1 : Option Addr) (len1 cap1 : Nat) (x1 : List (Int × Int)) (a2 : Option Addr) (len2 cap2 : Nat) (x2 : List Int) (w : World)
    (y0 : tAcsP.R w (fun _ => True) [.slice a0 len0 cap0] x0) (y1 : tBals.R w (fun _ => True) [.slice a1 len1 cap1] x1) (y2 : tIntsP.R w (fun _ => True) [.slice a2 len2 cap2] x2) :
    Calls Try.prog 7 #[.slice a0 len0 cap0, .slice a1 len1 cap1, .slice a2 len2 cap2] w fun en w' => en = .returned (.bool true) ∧ Below w.heap.size w w' := by
  obtain ⟨a, cap, he, hs, hle, hcm, _⟩ := y0
  obtain ⟨⟨b, cap2, he2, ht, hle2, hcm2, _⟩, hn2⟩ := y1
  obtain ⟨c, cap3, he3, hu, hle3, hcm3, _⟩ := y2
  simp only [List.cons.injEq, Value.slice.injEq, and_true] at he he2 he3
  obtain ⟨rfl, rfl, rfl⟩ := he
  obtain ⟨rfl, rfl, rfl⟩ := he2
  obtain ⟨rfl, rfl, rfl⟩ := he3
  have hl := Nat.le_trans hle hcm
  have hl2 := Nat.le_trans hle2 hcm2
  have hl3 := Nat.le_trans hle3 hcm3
  have nil : ∀ {a : Option Addr} {l : List (Int × Int)} {c : Nat}, Sl tBal w (fun _ => True) a l → (∀ n c', [Value.slice a l.length c] = [.slice none n c'] → c' = 0) → a = none → l = [] ∧ c = 0 := by
    intro a l c hs hn ha
    subst ha
    refine ⟨?_, hn _ _ rfl⟩
    cases l with
    | nil => rfl
    | cons x r =>
      obtain ⟨ad, _, h, _⟩ := hs 0 x rfl
      cases h
  by_cases h : 40 < x1.length ∨ x1.length ≤ 40 ∧ 10 < x2.length
  · exact picks_early _ x1 x2 _ _ _ _ w hl2 hl3 h
  · exact picks_main x0 x1 x2 _ _ _ _ _ _ w hs ht hu hl (by omega) (by omega) (nil ht hn2)
end Go.Proofs.Ytfbbjlhhkfdncaa
