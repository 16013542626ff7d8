/- Plain: both sides of a sheet are the same: the lines of every journal come to 0. -/
import Derived.Test.YtfnmlpnncjhnmaaGreatX32TrialTells
import Derived.Test.YtfnmlpnncjhnmaaGreatX30TrialTells
import Derived.Test.YtfnmlpnncjhnmaaGreatX16TrialTells
import Derived.Test.YtfnmlpnncjhnmaaGreatX20TrialTells
import Derived.Test.YtfnmlpnncjhnmaaGreatX22TrialTells
import Derived.Test.YtfnmlpnncjhnmaaGreatX07TrialTells
set_option linter.unusedVariables false
set_option linter.unusedSimpArgs false
namespace Go.Proofs.YtfnmlpnncjhnmaaGreat
open Go.RowKit Go.Maps Go.Deep

theorem sumQ_true : ∀ (L : List Ln), sumQ (fun _ => true) L = sumA L
  | [] => rfl
  | x :: r => by simp only [sumQ, sumA, sumQ_true r, if_true]
theorem chk_sumA {j : Jn} (h : chk j = 0) : sumA j.lines = 0 := by
  unfold chk at h
  by_cases h0 : sumA j.lines = 0
  · exact h0
  · have h1 : (sumA j.lines != 0) = true := by simpa using h0
    rw [h1] at h
    split at h
    · cases h
    · split at h
      · cases h
      · split at h
        · cases h
        · split at h <;> cases h
theorem lines_zero {J : List Jn} (h : ∀ x ∈ J, chk x = 0) (e f t : Int) : sumQ (fun _ => true) (linesOf J e f t) = 0 := by
  induction J with
  | nil => rfl
  | cons j r ih =>
    have ih := ih (fun x hx => h x (List.mem_cons_of_mem _ hx))
    unfold linesOf at ih ⊢
    rw [List.filter_cons]
    split
    · rw [List.flatMap_cons, sumQ_app, ih, sumQ_true, chk_sumA (h j (List.mem_cons_self ..))]
      rfl
    · exact ih
/-- the accounts that are none -/
def outK (r : List Ac) (c : Int) : Bool := (findA r c).isNone
theorem kind_one {r : List Ac} (hr : GoodA r) (c m : Int) : (if kB r [1] c then m else 0) + (if kB r [2] c then m else 0) + (if kB r [3] c then m else 0) + (if kB r [4] c then m else 0) + (if kB r [5] c then m else 0) + (if outK r c then m else 0) = m := by
  unfold kB pickB outK
  cases h : findA r c with
  | none => simp [h]
  | some a =>
    have h1 := hr.ok a (find_mem h)
    unfold rowB at h1
    simp at h1
    obtain ⟨_, _, h2, h3⟩ := h1
    have hk : a.kind = 1 ∨ a.kind = 2 ∨ a.kind = 3 ∨ a.kind = 4 ∨ a.kind = 5 := by omega
    rcases hk with hk | hk | hk | hk | hk <;> simp [h, hk]
theorem sumQ_all {r : List Ac} (hr : GoodA r) : ∀ (L : List Ln), sumQ (kB r [1]) L + sumQ (kB r [2]) L + sumQ (kB r [3]) L + sumQ (kB r [4]) L + sumQ (kB r [5]) L + sumQ (outK r) L = sumQ (fun _ => true) L
  | [] => rfl
  | x :: s => by
    have ih := sumQ_all hr s
    have h := kind_one hr x.acc x.amt
    simp only [sumQ, if_true]
    omega
theorem bal_zero {J : List Jn} {e f t : Int} (h : (balT J e f t).2 = 0) : (balT J e f t).1 = accR J e f t := by
  rcases balT_cases J e f t with hb | hb | ⟨_, _, hb⟩
  · rw [hb] at h; cases h
  · rw [hb] at h; cases h
  · rw [hb]
theorem ret_sum {r : List Ac} {J : List Jn} (hV : ValJ J) {e p : Int} (hp : 0 ≤ p) (h1 : (retT r J e p).2 = 0) (h2 : (curT r J e p).2 = 0) : (retT r J e p).1 + (curT r J e p).1 = -sumQ (kB r [4]) (linesOf J e 0 p) - sumQ (kB r [5]) (linesOf J e 0 p) := by
  have hj0 : 0 ≤ janOf p := by unfold janOf; omega
  have hjp : janOf p ≤ p := by unfold janOf; omega
  have hc : (curT r J e p).1 = -sumQ (kB r [4]) (linesOf J e (janOf p) p) - sumQ (kB r [5]) (linesOf J e (janOf p) p) := net_sum hV h2
  have hr : (retT r J e p).1 = -sumQ (kB r [4]) (linesOf J e 0 (janOf p - 1)) - sumQ (kB r [5]) (linesOf J e 0 (janOf p - 1)) := by
    by_cases hj : janOf p = 0
    · have : (retT r J e p).1 = 0 := by unfold retT; rw [hj]; rfl
      rw [this, hj, show (0 : Int) - 1 = -1 from rfl, lines_none]
      rfl
    · have hb : (janOf p == 0) = false := by simpa using hj
      unfold retT at h1 ⊢
      rw [hb] at h1 ⊢
      exact net_sum hV h1
  rw [hc, hr, lines_split (kB r [4]) e 0 (janOf p) p hj0 (by omega), lines_split (kB r [5]) e 0 (janOf p) p hj0 (by omega)]
  omega
/-- the five other sums as sums over lines -/
theorem sh_sums {r : List Ac} {J : List Jn} (hV : ValJ J) {e p : Int} (h : (shT r J e p).2 = 0) :
    (shT r J e p).1.1 = sumQ (kB r [1]) (linesOf J e 0 p) ∧ (shT r J e p).1.2.1 = -sumQ (kB r [2]) (linesOf J e 0 p) ∧ (shT r J e p).1.2.2.1 = -sumQ (kB r [3]) (linesOf J e 0 p) ∧ (shT r J e p).1.2.2.2.2.2 = -sumQ (outK r) (linesOf J e 0 p) := by
  obtain ⟨hE, hv⟩ := shT_ok h
  obtain ⟨g0, g1, g2, g3, g4, g5, g6⟩ := shE_ok hE
  rw [hv]
  simp only
  have hb := bal_zero g0
  refine ⟨?_, ?_, ?_, ?_⟩
  · unfold owT at g1 ⊢
    rw [addM_ok g1, hb, pickB_k, accR_sum hV e 0 p (kB r [1])]
  · unfold oeT at g2 ⊢
    rw [addM_ok g2, neg_sum, hb, pickB_k, accR_sum hV e 0 p (kB r [2])]
  · unfold heT at g3 ⊢
    rw [addM_ok g3, neg_sum, hb, pickB_k, accR_sum hV e 0 p (kB r [3])]
  · unfold otT at g6 ⊢
    rw [addM_ok g6, show othL r (balT J e 0 p).1 = ((balT J e 0 p).1.filter (outB r)).map negB from rfl, neg_sum, hb, show outB r = fun x => outK r x.1 from rfl, accR_sum hV e 0 p (outK r)]
/-- both sides of a sheet -/
theorem sh_holds {r : List Ac} (hr : GoodA r) {J : List Jn} (hV : ValJ J) {e p : Int} (h : (shT r J e p).2 = 0) :
    (shT r J e p).1.1 = (shT r J e p).1.2.1 + (shT r J e p).1.2.2.1 + (shT r J e p).1.2.2.2.1 + (shT r J e p).1.2.2.2.2.1 + (shT r J e p).1.2.2.2.2.2 := by
  obtain ⟨h1, h2, h3, h4⟩ := sh_sums hV h
  obtain ⟨hE, hv⟩ := shT_ok h
  obtain ⟨g0, _, _, _, g4, g5, _⟩ := shE_ok hE
  have hp : 0 ≤ p := by
    have hrt : rightB e 0 p = true := by
      cases h : rightB e 0 p with
      | true => rfl
      | false => unfold balT at g0; rw [h] at g0; cases g0
    exact (right_month hrt).2.1
  have h5 := ret_sum hV hp g4 g5
  have h6 : (shT r J e p).1.2.2.2.1 = (retT r J e p).1 := by rw [hv]
  have h7 : (shT r J e p).1.2.2.2.2.1 = (curT r J e p).1 := by rw [hv]
  have h8 := sumQ_all hr (linesOf J e 0 p)
  rw [lines_zero hV.ok] at h8
  omega
end Go.Proofs.YtfnmlpnncjhnmaaGreat


/- Plain: the document's partners are the program's; balances come to 0. -/
set_option linter.unusedVariables false
set_option linter.unusedSimpArgs false
namespace Go.Proofs.YtfnmlpnncjhnmaaGreat
open Go.RowKit Go.Maps Go.Deep

/-- lines with a partner, told by the partner -/
def toP (ls : List Ln) : List Ln := (ls.filter (fun x => decide (0 < x.par))).map (fun x => ⟨x.par, x.amt, 0⟩)
theorem toP_succ_yes {ls : List Ln} {n : Nat} (hn : n < ls.length) (h : 0 < ls[n].par) : toP (ls.take (n + 1)) = toP (ls.take n) ++ [⟨ls[n].par, ls[n].amt, 0⟩] := by
  unfold toP
  rw [List.take_succ_eq_append_getElem hn, List.filter_append, List.map_append]
  simp [h]
theorem toP_succ_no {ls : List Ln} {n : Nat} (hn : n < ls.length) (h : ¬ 0 < ls[n].par) : toP (ls.take (n + 1)) = toP (ls.take n) := by
  unfold toP
  rw [List.take_succ_eq_append_getElem hn, List.filter_append, List.map_append]
  simp [h]
theorem toP_len (ls : List Ln) : (toP ls).length ≤ ls.length := by
  unfold toP
  rw [List.length_map]
  exact List.length_filter_le _ _
theorem toP_amt {ls : List Ln} (h : ∀ x ∈ ls, -1000000000000000 ≤ x.amt ∧ x.amt ≤ 1000000000000000) : ∀ x ∈ toP ls, -1000000000000000 ≤ x.amt ∧ x.amt ≤ 1000000000000000 := by
  intro x hx
  unfold toP at hx
  obtain ⟨y, hy, rfl⟩ := List.mem_map.1 hx
  exact h y (List.mem_filter.1 hy).1
theorem refS_snoc (ls : List Ln) (x : Ln) : refS (ls ++ [x]) = putL (refS ls) x.acc x.amt := by
  unfold refS
  rw [List.foldl_append]
  rfl
theorem parS_is : ∀ (ls : List Ln) (s : List (Int × Int)), (∀ x ∈ ls, 0 ≤ x.par) → parS s ls = accS s (toP ls)
  | [], s, _ => rfl
  | x :: r, s, h => by
    have h0 := h x (List.mem_cons_self ..)
    have ih := fun s => parS_is r s (fun y hy => h y (List.mem_cons_of_mem _ hy))
    unfold parS accS at ih ⊢
    rw [List.foldl_cons, ih]
    by_cases hp : 0 < x.par
    · have e : sPar s x = sAdd s x.par x.amt := by
        unfold sPar
        have : (x.par == 0) = false := by simp; omega
        rw [this]
        rfl
      have e2 : toP (x :: r) = ⟨x.par, x.amt, 0⟩ :: toP r := by unfold toP; simp [hp]
      rw [e, e2, List.foldl_cons]
    · have e : sPar s x = s := by
        unfold sPar
        have : (x.par == 0) = true := by simp; omega
        rw [this]
        rfl
      have e2 : toP (x :: r) = toP r := by unfold toP; simp [hp]
      rw [e, e2]
theorem linesOf_par {l : List Jn} (h : ValJ l) (e f t : Int) : ∀ x ∈ linesOf l e f t, 0 ≤ x.par := by
  intro x hx
  obtain ⟨j, hj, hxj⟩ := List.mem_flatMap.1 hx
  have hc := h.ok j (List.mem_filter.1 hj).1
  have hrow : j.lines.any (rowBad j.en) = false := by
    cases hh : j.lines.any (rowBad j.en) with
    | false => rfl
    | true =>
      unfold chk at hc
      rw [hh] at hc
      revert hc
      split
      · intro h; cases h
      · split
        · intro h; cases h
        · intro h; simp at h
  rw [List.any_eq_false] at hrow
  have := hrow x hxj
  unfold rowBad at this
  simp at this
  omega
theorem par_is {J : List Jn} (hV : ValJ J) (e f t : Int) : parR J e f t = (refS (toP (linesOf J e f t))).filter nzB := by
  have hl : (toP (linesOf J e f t)).length ≤ 9000 := by
    have h1 := toP_len (linesOf J e f t)
    have h2 := linesOf_len hV.good (by have := hV.len; omega) e f t
    omega
  have ha := accS_at _ (toP (linesOf J e f t)) rfl hl (toP_amt (linesOf_amt hV e f t))
  unfold parR
  rw [parS_is _ _ (linesOf_par hV e f t)]
  refine rise_ext (tellS_rise (accS_nodup _ _ (by simp))) ((refS_all _ _ rfl).1.filter _) (fun x => ?_)
  rw [tellS_mem, ha, List.mem_filter]
  constructor
  · rintro ⟨h1, h2⟩
    exact ⟨refS_of h1 h2, by simpa [nzB] using h2⟩
  · rintro ⟨h1, h2⟩
    exact ⟨refS_mem h1, by simpa [nzB] using h2⟩
/-- balances come to 0 -/
theorem bal_sum {J : List Jn} (hV : ValJ J) {e f t : Int} (h : (balT J e f t).2 = 0) : sumI ((balT J e f t).1.map (·.2)) = 0 := by
  have hs := accR_sum hV e f t (fun _ => true)
  rw [lines_zero hV.ok] at hs
  rw [bal_zero h]
  rw [List.filter_eq_self.2 (by simp)] at hs
  exact hs
theorem sum_ok {J : List Jn} (hV : ValJ J) {e f t : Int} (h : (balT J e f t).2 = 0) : addM ((balT J e f t).1.map (·.2)) = (0, 0) := by
  rw [addM_of balT_fit, bal_sum hV h]
  rfl
end Go.Proofs.YtfnmlpnncjhnmaaGreat


/- The document's balances: may it be asked, all lines. -/
set_option linter.unusedVariables false
set_option linter.unusedSimpArgs false
namespace Go.Proofs.YtfnmlpnncjhnmaaGreat
open Go.RowKit Go.Maps Go.Deep

set_option maxHeartbeats 4000000 in
theorem r10Right_is (e f t : Int) (h1 : 1 ≤ e) (h2 : e ≤ 9) (hf : monthOk f = true) (ht : monthOk t = true) (hft : f ≤ t) (w : World) : Calls Tryz.prog 37 #[.int .i64 e, .int .i64 f, .int .i64 t] w fun en w' => en = .returned (.bool true) ∧ Below w.heap.size w w' := by
  have HF := Lib.hid hf
  have HT := Lib.hid ht
  clear hf ht
  go_enter Tryz.func37, Tryz.ntmps37
  go_wp2_with fail
  refine (ref_valid_is f HF.out _).mono ?_
  rintro en w1 ⟨rfl, hb⟩
  have HB := Lib.hid hb
  clear hb
  go_wp2_with fail
  refine (ref_valid_is t HT.out _).mono ?_
  rintro en w2 ⟨rfl, hb⟩
  have HB2 := Lib.hid (belows_then HB.out HB.out.size hb)
  clear hb
  go_wp2_with fail
  go_ret
  exact ⟨rfl, HB2.out⟩

theorem Sl.ofLn {w W : World} {la : Option Addr} {xs : List Ln} {F : Nat → Prop} {v : Value} {B : Nat} (h : Sl tLn w F la xs) (hb : Below B w W) (hB : ∀ k, F k → k < B) (hv : ∀ k, v.ownBlock = some k → B ≤ k) : Sl tLn W (fun k => some k ≠ v.ownBlock ∧ k < W.heap.size) la xs := by
  intro i x hx
  obtain ⟨ad, ces, ha, hf, hlt, hc, hr⟩ := h i x hx
  have hs := hb.size
  have hl := hB _ hf
  refine ⟨ad, ces, ha, ⟨fun e => by have := hv _ e.symm; omega, by omega⟩, by omega, fun j u hu => ?_, ?_⟩
  · rw [← hc j u hu]
    exact World.cell?_of_block (w := w) (by rw [add_block, add_block]; exact hb.block _ hl)
  · obtain ⟨rfl, h1, h2, h3⟩ := ln_inv hr
    exact ln_mk _ h1 h2 h3

set_option maxHeartbeats 8000000 in
set_option maxRecDepth 100000 in
theorem r10Lines_any (J : List Jn) (a : Option Addr) (cap : Nat) (e f t : Int) (w : World) {F : Nat → Prop} (hs : Sl tJn w F a J) (hg : GoodJ J) (hl : J.length ≤ 1000) :
    Calls Tryz.prog 38 #[.slice a J.length cap, .int .i64 e, .int .i64 f, .int .i64 t] w fun en w' => ∃ v, en = .returned v ∧ OwnL tLn w' w.heap.size v (linesOf J e f t) ∧ Below w.heap.size w w' := by
  have HS : Hid (Sl tJn w (fun k => k < w.heap.size) a J) := Sl.mono (fun k hk _ => hk) hs
  have HG := Lib.hid hg
  clear hs hg
  obtain ⟨i0, hi, hz0, hz1, hz2⟩ := info_parts infoL
  go_enter Tryz.func38, Tryz.ntmps38
  go_wp2_with fail
  go_loopw [9, 10] (fun vo vi wr => ∃ (n : Nat) (vx : Value), vx = vo ∧ n ≤ J.length ∧ vi = .int .i64 n ∧ OwnL tLn wr w.heap.size vx (linesOf (J.take n) e f t) ∧ Below w.heap.size w wr) (fun _ vi _ => J.length - (intOf vi).toNat)
  case atStart => exact ⟨0, _, rfl, Nat.zero_le _, rfl, OwnL.nil _ _, Below.refl _ _⟩
  case round =>
    obtain ⟨n, vo, rfl, hn, rfl, ho, hb⟩ := hrel
    have HO := Lib.hid ho
    have HB := Lib.hid hb
    clear ho hb
    by_cases hlt : n < J.length
    · obtain ⟨ad, la, lc, rfl, _, hadl, hc0, hc1, hc2, hc3, hc4, hc5, hr⟩ := jn_at (Sl.keep (fun k hk _ => HB.out.block k hk) HS.out) n hlt
      have HTK := Lib.hid (linesOf_succ e f t J n hlt)
      have hnum : (linesOf (J.take n) e f t).length ≤ 8000 := linesOf_len (fun x hx => HG.out x (List.mem_of_mem_take hx)) (by rw [List.length_take]; omega) e f t
      have hgx := HG.out _ (List.getElem_mem hlt)
      obtain ⟨b, hcb⟩ : ∃ b, cnt e f t J[n] = b := ⟨_, rfl⟩
      have hcs := cnt_cases hcb
      rw [hcb] at HTK
      generalize J[n] = x at *
      have HLX := Lib.hid (jcs_inv hr).2.2.2.2.1
      clear hr hcb
      rcases hcs with ⟨rfl, h1 | ⟨h1, h2 | ⟨h2, h3 | ⟨h3, h4⟩⟩⟩⟩ | ⟨rfl, h1, h2, h3, h4⟩
      · have HN : Hid (linesOf (J.take (n + 1)) e f t = linesOf (J.take n) e f t) := Lib.hid (by rw [HTK.out]; simp)
        go_wp2_with fail
        go_roundw
        case rel => exact ⟨n + 1, _, rfl, by omega, by go_num, by rw [HN.out]; exact HO.out, HB.out⟩
        case measure => simp [intOf]; omega
      · have HN : Hid (linesOf (J.take (n + 1)) e f t = linesOf (J.take n) e f t) := Lib.hid (by rw [HTK.out]; simp)
        go_wp2_with fail
        go_roundw
        case rel => exact ⟨n + 1, _, rfl, by omega, by go_num, by rw [HN.out]; exact HO.out, HB.out⟩
        case measure => simp [intOf]; omega
      · have HN : Hid (linesOf (J.take (n + 1)) e f t = linesOf (J.take n) e f t) := Lib.hid (by rw [HTK.out]; simp)
        go_wp2_with fail
        go_roundw
        case rel => exact ⟨n + 1, _, rfl, by omega, by go_num, by rw [HN.out]; exact HO.out, HB.out⟩
        case measure => simp [intOf]; omega
      · have HN : Hid (linesOf (J.take (n + 1)) e f t = linesOf (J.take n) e f t) := Lib.hid (by rw [HTK.out]; simp)
        go_wp2_with fail
        go_roundw
        case rel => exact ⟨n + 1, _, rfl, by omega, by go_num, by rw [HN.out]; exact HO.out, HB.out⟩
        case measure => simp [intOf]; omega
      have HN : Hid (linesOf (J.take (n + 1)) e f t = linesOf (J.take n) e f t ++ x.lines) := Lib.hid (by rw [HTK.out]; simp)
      obtain ⟨lad, rfl⟩ : ∃ lad, la = some lad := by
        cases hxl : x.lines with
        | nil => exact absurd hxl hgx.1
        | cons y ys =>
          obtain ⟨ad', _, h, _⟩ := HLX.out 0 y (by rw [hxl]; rfl)
          exact ⟨ad', h⟩
      have HSL : Hid (Sl tLn wr (fun k => some k ≠ vo.ownBlock ∧ k < wr.heap.size) (some lad) x.lines) := Lib.hid (Sl.ofLn HLX.out (Below.refl w.heap.size wr) (fun k hk => hk) (fun k hk => (HO.out.lt k hk).1))
      have h63 : (linesOf (J.take n) e f t).length + x.lines.length ≤ maxLen := by have := hgx.2; unfold maxLen; omega
      have hby : ((linesOf (J.take n) e f t).length + x.lines.length) * 24 ≤ 140737488355328 := by have := hgx.2; omega
      clear hgx hadl
      go_wp2_with (at_builtin; refine wp_app (T := tLn) rfl _ _ 86 rfl i0 (.agg #[.int .i64 0, .int .i64 0, .int .i64 0]) 24 Tryz.underlying86 hi hz0 hz1 hz2 rfl (by decide) ln_one w.heap.size vo (linesOf (J.take n) e f t) rfl HO.out lad lc x.lines rfl HSL.out h63 hby HB.out.size ?_; intro v3 w3 hown hg hnil hat; have HO3 := Lib.hid hown; have HB3 := Lib.hid (Below.grown HB.out hg HB.out.size (fun k e => (HO.out.lt k e).1)); clear hown hg hnil hat)
      go_roundw
      case rel => exact ⟨n + 1, _, rfl, by omega, by go_num, by rw [HN.out]; exact HO3.out, HB3.out⟩
      case measure => simp [intOf]; omega
    · have HL : Hid (J.take n = J) := Lib.hid (take_all hn hlt)
      have hown := HO.out
      rw [HL.out] at hown
      have HW := Lib.hid hown
      clear hown
      go_wp2_with fail
      go_ret
      exact ⟨_, rfl, HW.out, HB.out⟩
end Go.Proofs.YtfnmlpnncjhnmaaGreat
