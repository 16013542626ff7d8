
/- Charts: New of accounts that may be; law 3's Make; law 10's Set with accounts. -/
import Derived.Test.YtfbbjlhhkfdncaaAg
import Derived.Test.YtfbbjlhhkfdncaaAe
import Derived.Test.YtfbbjlhhkfdncaaTk
import Derived.Test.YtfbbjlhhkfdncaaTh
set_option linter.unusedVariables false
set_option linter.unusedSimpArgs false
namespace Go.Proofs.Ytfbbjlhhkfdncaa
open Go.RowKit Go.Maps Go.Deep

theorem good_take {l : List Ac} (h : GoodA l) {n : Nat} (hn : n < l.length) : rowB l[n] = true ∧ findA (l.take n) l[n].code = none := by
  refine ⟨h.ok _ (List.getElem_mem hn), ?_⟩
  unfold findA
  rw [List.find?_eq_none]
  intro x hx he
  obtain ⟨i, hi, rfl⟩ := List.mem_iff_getElem.1 hx
  rw [List.length_take] at hi
  rw [List.getElem_take] at he
  have := (List.pairwise_iff_getElem.1 h.up) i n (by omega) hn (by omega)
  simp at he
  omega

set_option maxHeartbeats 4000000 in
set_option maxRecDepth 100000 in
theorem chnew_any (l : List Ac) (a : Option Addr) (cap : Nat) (w : World) {F : Nat → Prop} (hs : Sl tAc w F a l) (hl : l.length ≤ 1000) (hg : GoodA l) :
    Calls Try.prog 89 #[.slice a l.length cap] w fun e w' => e = .returned (.tuple #[.pointer (some ⟨w.heap.size, 0, none⟩), .int .i64 0]) ∧ ∃ mb, ChartAt w' w.heap.size mb l ∧ Below w.heap.size w w' := by
  have HS := Lib.hid hs
  have HG := Lib.hid hg
  clear hs hg
  have HC0 : Hid (ChartAt (w.alloc (.cells #[.map none] 154)) w.heap.size none (l.take 0)) := Lib.hid ⟨blk_new w _, fun _ => rfl, fun b e => by cases e⟩
  have HB0 := Lib.hid ((Below.refl w.heap.size w).alloc (Nat.le_refl _) (.cells #[.map none] 154))
  go_enter Try.func89, Try.ntmps89
  go_wp2_with fail
  go_loopw [12] (fun vi wr => ∃ (n : Nat) (mb : Option Nat), n ≤ l.length ∧ vi = .int .i64 n ∧ ChartAt wr w.heap.size mb (l.take n) ∧ (∀ b, mb = some b → w.heap.size ≤ b) ∧ Below w.heap.size w wr) (fun vi _ => l.length - (intOf vi).toNat)
  case atStart => exact ⟨0, none, Nat.zero_le _, rfl, HC0.out, fun b e => (by cases e), HB0.out⟩
  case round =>
    obtain ⟨n, mb, hn, rfl, hc, hm, hb⟩ := hrel
    have HC := Lib.hid hc
    have HM := Lib.hid hm
    have HB := Lib.hid hb
    clear hc hm hb
    by_cases hlt : n < l.length
    · obtain ⟨ad, rfl, _, hadl, hc0, hc1, hc2, g0, g1⟩ := ac_at (HS.out.keep fun k hk _ => HB.out.block k hk) n hlt
      have HGT := Lib.hid (good_take HG.out hlt)
      have HTK : Hid (l.take (n + 1) = l.take n ++ [l[n]]) := Lib.hid (List.take_succ_eq_append_getElem hlt)
      have HBA : Hid (Below wr.heap.size wr (wr.alloc (.cells #[.int .i64 l[n].code, .int .i64 l[n].kind, .bool l[n].ret] 111))) := Lib.hid ((Below.refl _ _).alloc (Nat.le_refl _) _)
      have HCA := Lib.hid (HC.out.below HBA.out)
      have G0 := Lib.hid g0
      have G1 := Lib.hid g1
      clear g0 g1
      go_wp2_with fail
      refine (put_any (B := w.heap.size) HCA.out l[n] HGT.out.1 HGT.out.2 G0.out G1.out (Nat.le_refl _) HM.out).mono ?_
      rintro en w3 ⟨rfl, mb', hc3, hm3, hb3⟩
      have HC3 := Lib.hid hc3
      have HM3 := Lib.hid hm3
      have HB3 := Lib.hid ((belows_then HB.out HB.out.size HBA.out).trans hb3)
      clear hc3 hm3 hb3
      go_wp2_with fail
      go_roundw
      case rel => exact ⟨n + 1, mb', by omega, by go_num, by rw [HTK.out]; exact HC3.out, HM3.out, HB3.out⟩
      case measure => simp [intOf]; omega
    · go_wp2_with fail
      go_ret2
      exact ⟨rfl, mb, by have := HC.out; rwa [take_all hn hlt] at this, HB.out⟩
set_option maxHeartbeats 2000000 in
theorem l3make_any (l : List Ac) (a : Option Addr) (cap : Nat) (w : World) {F : Nat → Prop} (hs : Sl tAc w F a l) (hl : l.length ≤ 1000) (hg : GoodA l) :
    Calls Try.prog 52 #[.slice a l.length cap] w fun e w' => e = .returned (.pointer (some ⟨w.heap.size, 0, none⟩)) ∧ ∃ mb, ChartAt w' w.heap.size mb l ∧ Below w.heap.size w w' := by
  have HC := Lib.hid (chnew_any l a cap w hs hl hg)
  clear hs hl hg
  go_enter Try.func52, Try.ntmps52
  go_wp2_with fail
  refine HC.out.mono ?_
  rintro en w' ⟨rfl, mb, hc, hb⟩
  have HF := Lib.hid (And.intro hc hb)
  clear hc hb
  go_wp2_with fail
  go_ret
  exact ⟨rfl, mb, HF.out⟩

def SetAPost (w : World) (e : Ending) (w' : World) : Prop :=
  ∃ (r : List Ac) (c g : Nat) (ra : Option Addr) (rc : Nat) (jv : Value) (mb : Option Nat), e = .returned (.tuple #[.pointer (some ⟨c, 0, none⟩), .pointer (some ⟨g, 0, none⟩), .slice ra r.length rc, jv, .bool true]) ∧ GoodA r ∧ r.length ≤ 30 ∧
    ChartAt w' c mb r ∧ Sl tAc w' (fun _ => True) ra r ∧ Below w.heap.size w w'

theorem OwnL.formA {w : World} {base : Nat} {v : Value} {xs : List Ac} (h : OwnL tAc w base v xs) : ∃ ra rc, v = .slice ra xs.length rc ∧ xs.length ≤ rc ∧ rc ≤ maxLen ∧ Sl tAc w (fun _ => True) ra xs ∧ (ra = none → xs = [] ∧ rc = 0) := by
  obtain ⟨a, c, rfl, h1, h2, h3⟩ := h.slice
  refine ⟨a, c, rfl, h1, h2, h3, fun e => ?_⟩
  rcases h.form with ⟨hv, hx⟩ | ⟨g, cap, hv, _⟩
  · injection hv with _ _ h5
    exact ⟨hx, h5⟩
  · injection hv with h4
    rw [e] at h4
    cases h4

set_option maxHeartbeats 8000000 in
set_option maxRecDepth 100000 in
theorem setA_any (l : List Ac) (a : Option Addr) (cap : Nat) (w : World) {F : Nat → Prop} (hs : Sl tAc w F a l) (hl : l.length ≤ maxLen) :
    Calls Try.prog 23 #[.slice a l.length cap, .slice none 0 0] w (SetAPost w) := by
  have HS := Lib.hid hs
  have hl' : l.length ≤ 9223372036854775807 := by unfold maxLen at hl; omega
  clear hs hl
  go_enter Try.func23, Try.ntmps23
  go_wp2_with fail
  go_loopw [9, 10, 11, 12] (fun vo vi v11 v12 wr => ∃ (n : Nat) (vx : Value) (r : List Ac), vx = vo ∧ n ≤ l.length ∧ n ≤ 30 ∧ vi = .int .i64 n ∧ GoodA r ∧ r.length ≤ n ∧ OwnL tAc wr w.heap.size vx r ∧ Below w.heap.size w wr) (fun _ vi _ _ _ => l.length - (intOf vi).toNat)
  case atStart => exact ⟨0, _, [], rfl, Nat.zero_le _, Nat.zero_le _, rfl, GoodA.nil, Nat.le_refl _, OwnL.nil _ _, Below.refl _ _⟩
  case round =>
    obtain ⟨n, vo, r, rfl, hn, hn30, rfl, hg, hrl, ho, hb⟩ := hrel
    have HG := Lib.hid hg
    have HB := Lib.hid hb
    have HO := Lib.hid ho
    obtain ⟨ra, rc, rfl, hrc, hrm, hrs, hrn⟩ := ho.formA
    have HRS := Lib.hid hrs
    have HRN := Lib.hid hrn
    clear hg hb ho hrs hrn
    by_cases hlt : n < l.length ∧ n < 30
    · obtain ⟨hlt, h30⟩ := hlt
      obtain ⟨ad, rfl, _, hadl, hc0, hc1, hc2, g0, g1⟩ := ac_at (HS.out.keep fun k hk _ => HB.out.block k hk) n hlt
      have G0 := Lib.hid g0
      have G1 := Lib.hid g1
      clear g0 g1
      go_wp2_with fail
      refine (add_any r ra rc l[n] wr HRS.out HG.out (by omega) hrc hrm HRN.out G0.out G1.out).mono ?_
      rintro en w2 ⟨v', er, r', rfl, hok, hb⟩
      have HOK := Lib.hid hok
      have HO2 := Lib.hid (HO.out.below hb)
      have HB2 := Lib.hid (belows_then HB.out HB.out.size hb)
      have HBS := HB.out.size
      clear hok hb
      cases her : er == 0
      · go_wp2_with fail
        go_roundw
        case rel => exact ⟨n + 1, _, r, rfl, by omega, by omega, by go_num, HG.out, by omega, HO2.out, HB2.out⟩
        case measure => simp [intOf]; omega
      · obtain rfl : er = 0 := by simpa using her
        obtain ⟨h1, h2, h3⟩ := HOK.out rfl
        have H1 := Lib.hid h1
        have H3 := Lib.hid (h3.mono HBS)
        clear h1 h3 her
        go_wp2_with fail
        go_roundw
        case rel => exact ⟨n + 1, _, r', rfl, by omega, by omega, by go_num, H1.out, by omega, H3.out, HB2.out⟩
        case measure => simp [intOf]; omega
    · have hd : (decide ((n : Int) < (l.length : Int)) && decide ((n : Int) < 30)) = false := by simp; omega
      have hcs : ¬ n < l.length ∨ n < l.length ∧ ¬ n < 30 := by omega
      rcases hcs with h1 | ⟨h1, h2⟩
      all_goals
        clear hlt hd
        go_wp2_with fail
        refine (fit_any ([] : List Jn) none 0 40 wr (F := fun _ => True) (fun i x hx => by simp at hx) (by simp) (by omega)).mono ?_
        rintro en w1 ⟨v, rfl, ho, hb⟩
        have hfe : fitJ 40 [] = [] := rfl
        rw [hfe] at ho
        have HB1 := Lib.hid (belows_then HB.out HB.out.size hb)
        obtain ⟨fa, fc, rfl, _, _, hsl⟩ := ho.slice
        have HA := Lib.hid hsl
        have HRS1 := Lib.hid (Sl.keep (fun k hk _ => hb.block k hk) HRS.out)
        clear ho hb hsl
        go_wp2_with fail
        refine (l3make_any r ra rc w1 HRS1.out (by omega) HG.out).mono ?_
        rintro en w2 ⟨rfl, mb, hc, hb⟩
        have HB2 := Lib.hid (belows_then HB1.out HB1.out.size hb)
        have HC2 := Lib.hid hc
        have HRS2 := Lib.hid (Sl.keep (fun k hk _ => hb.block k hk) HRS1.out)
        have HA2 := Lib.hid (Sl.keep (fun k hk _ => hb.block k hk) HA.out)
        clear hc hb
        go_wp2_with fail
        refine (lof_yes [] fa fc _ HA2.out (by simp) (fit_val 40 []).incJ (fit_val 40 []).of).mono ?_
        rintro en w3 ⟨g, ga, gc, rfl, hg, hat, hb⟩
        have HB3 := Lib.hid (belows_then HB2.out HB2.out.size hb)
        have HC3 := Lib.hid (HC2.out.below hb)
        have HRS3 := Lib.hid (Sl.keep (fun k hk _ => hb.block k hk) HRS2.out)
        clear hb hat hg
        go_wp2_with fail
        refine bodyPost_ret (v := .tuple #[.pointer (some ⟨w1.heap.size, 0, none⟩), .pointer (some ⟨g, 0, none⟩), .slice ra r.length rc, .slice fa 0 fc, .bool true]) (by simp [results, Try.results23, go_sem]) rfl ?_
        exact ⟨r, w1.heap.size, g, ra, rc, _, mb, rfl, HG.out, by omega, HC3.out, Sl.mono (fun _ _ _ => trivial) HRS3.out, HB3.out⟩
end Go.Proofs.Ytfbbjlhhkfdncaa
