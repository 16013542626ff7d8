/- law 10: Set: accounts, and journals that may be in one book. -/
import Derived.Test.YtfnmlpnncjhnmaaGreatX47TrialTells
import Derived.Test.YtfnmlpnncjhnmaaGreatX48TrialTells
import Derived.Test.YtfnmlpnncjhnmaaGreatX10TrialTells
import Derived.Test.YtfnmlpnncjhnmaaGreatX20TrialTells
import Derived.Test.YtfnmlpnncjhnmaaGreatX36TrialTells
import Derived.Test.YtfnmlpnncjhnmaaGreatX37TrialTells
set_option linter.unusedVariables false
set_option linter.unusedSimpArgs false
namespace Go.Proofs.YtfnmlpnncjhnmaaGreat
open Go.RowKit Go.Maps Go.Deep

theorem good_take {l : List Ac} (h : GoodA l) {n : Nat} (hn : n < l.length) : rowB l[n] = true ∧ findA (l.take n) l[n].code = none := by
  refine ⟨h.ok _ (List.getElem_mem hn), ?_⟩
  unfold findA
  rw [List.find?_eq_none]
  intro x hx he
  obtain ⟨i, hi, rfl⟩ := List.mem_iff_getElem.1 hx
  rw [List.length_take] at hi
  rw [List.getElem_take] at he
  have := (List.pairwise_iff_getElem.1 h.up) i n (by omega) hn (by omega)
  simp at he
  omega

set_option maxHeartbeats 4000000 in
set_option maxRecDepth 100000 in
theorem chnew_any (l : List Ac) (a : Option Addr) (cap : Nat) (w : World) {F : Nat → Prop} (hs : Sl tAc w F a l) (hl : l.length ≤ 1000) (hg : GoodA l) :
    Calls Tryz.prog 112 #[.slice a l.length cap] w fun e w' => e = .returned (.tuple #[.pointer (some ⟨w.heap.size, 0, none⟩), .int .i64 0]) ∧ ∃ mb, ChartAt w' w.heap.size mb l ∧ Below w.heap.size w w' := by
  have HS := Lib.hid hs
  have HG := Lib.hid hg
  clear hs hg
  have HC0 : Hid (ChartAt (w.alloc (.cells #[.map none] 218)) w.heap.size none (l.take 0)) := Lib.hid ⟨blk_new w _, fun _ => rfl, fun b e => by cases e⟩
  have HB0 := Lib.hid ((Below.refl w.heap.size w).alloc (Nat.le_refl _) (.cells #[.map none] 218))
  go_enter Tryz.func112, Tryz.ntmps112
  go_wp2_with fail
  go_loopw [12] (fun vi wr => ∃ (n : Nat) (mb : Option Nat), n ≤ l.length ∧ vi = .int .i64 n ∧ ChartAt wr w.heap.size mb (l.take n) ∧ (∀ b, mb = some b → w.heap.size ≤ b) ∧ Below w.heap.size w wr) (fun vi _ => l.length - (intOf vi).toNat)
  case atStart => exact ⟨0, none, Nat.zero_le _, rfl, HC0.out, fun b e => (by cases e), HB0.out⟩
  case round =>
    obtain ⟨n, mb, hn, rfl, hc, hm, hb⟩ := hrel
    have HC := Lib.hid hc
    have HM := Lib.hid hm
    have HB := Lib.hid hb
    clear hc hm hb
    by_cases hlt : n < l.length
    · obtain ⟨ad, rfl, _, hadl, hc0, hc1, hc2, g0, g1⟩ := ac_at (HS.out.keep fun k hk _ => HB.out.block k hk) n hlt
      have HGT := Lib.hid (good_take HG.out hlt)
      have HTK : Hid (l.take (n + 1) = l.take n ++ [l[n]]) := Lib.hid (List.take_succ_eq_append_getElem hlt)
      have HBA : Hid (Below wr.heap.size wr (wr.alloc (.cells #[.int .i64 l[n].code, .int .i64 l[n].kind, .bool l[n].ret] 83))) := Lib.hid ((Below.refl _ _).alloc (Nat.le_refl _) _)
      have HCA := Lib.hid (HC.out.below HBA.out)
      have G0 := Lib.hid g0
      have G1 := Lib.hid g1
      clear g0 g1
      go_wp2_with fail
      refine (put_any (B := w.heap.size) HCA.out l[n] HGT.out.1 HGT.out.2 G0.out G1.out (Nat.le_refl _) HM.out).mono ?_
      rintro en w3 ⟨rfl, mb', hc3, hm3, hb3⟩
      have HC3 := Lib.hid hc3
      have HM3 := Lib.hid hm3
      have HB3 := Lib.hid ((belows_then HB.out HB.out.size HBA.out).trans hb3)
      clear hc3 hm3 hb3
      go_wp2_with fail
      go_roundw
      case rel => exact ⟨n + 1, mb', by omega, by go_num, by rw [HTK.out]; exact HC3.out, HM3.out, HB3.out⟩
      case measure => simp [intOf]; omega
    · go_wp2_with fail
      go_ret2
      exact ⟨rfl, mb, by have := HC.out; rwa [take_all hn hlt] at this, HB.out⟩
set_option maxHeartbeats 2000000 in
theorem l3make_any (l : List Ac) (a : Option Addr) (cap : Nat) (w : World) {F : Nat → Prop} (hs : Sl tAc w F a l) (hl : l.length ≤ 1000) (hg : GoodA l) :
    Calls Tryz.prog 36 #[.slice a l.length cap] w fun e w' => e = .returned (.pointer (some ⟨w.heap.size, 0, none⟩)) ∧ ∃ mb, ChartAt w' w.heap.size mb l ∧ Below w.heap.size w w' := by
  have HC := Lib.hid (chnew_any l a cap w hs hl hg)
  clear hs hl hg
  go_enter Tryz.func36, Tryz.ntmps36
  go_wp2_with fail
  refine HC.out.mono ?_
  rintro en w' ⟨rfl, mb, hc, hb⟩
  have HF := Lib.hid (And.intro hc hb)
  clear hc hb
  go_wp2_with fail
  go_ret
  exact ⟨rfl, mb, HF.out⟩

theorem OwnL.formA {w : World} {base : Nat} {v : Value} {xs : List Ac} (h : OwnL tAc w base v xs) : ∃ ra rc, v = .slice ra xs.length rc ∧ xs.length ≤ rc ∧ rc ≤ maxLen ∧ Sl tAc w (fun _ => True) ra xs ∧ (ra = none → xs = [] ∧ rc = 0) := by
  obtain ⟨a, c, rfl, h1, h2, h3⟩ := h.slice
  refine ⟨a, c, rfl, h1, h2, h3, fun e => ?_⟩
  rcases h.form with ⟨hv, hx⟩ | ⟨g, cap, hv, _⟩
  · injection hv with _ _ h5
    exact ⟨hx, h5⟩
  · injection hv with h4
    rw [e] at h4
    cases h4

/-- a chart and a book, as the program's and the document's -/
def SetP (w : World) (r : List Ac) (J : List Jn) (e : Ending) (w' : World) : Prop :=
  ∃ (c g : Nat) (ra fa ga : Option Addr) (rc fc gc : Nat) (mb : Option Nat), e = .returned (.tuple #[.pointer (some ⟨c, 0, none⟩), .pointer (some ⟨g, 0, none⟩), .slice ra r.length rc, .slice fa J.length fc, .bool true]) ∧
    ChartAt w' c mb r ∧ BookAt w' g ga gc J (fun k => w.heap.size ≤ k) ∧ Sl tAc w' (fun _ => True) ra r ∧ Sl tJn w' (fun _ => True) fa J ∧ Below w.heap.size w w'
theorem fold_succA {α β : Type} (f : β → α → β) (l : List α) (n : Nat) (hn : n < l.length) (o : β) : (l.take (n + 1)).foldl f o = f ((l.take n).foldl f o) l[n] := by
  rw [List.take_succ_eq_append_getElem hn, List.foldl_append]
  rfl
theorem setFold_good : ∀ (l r : List Ac), GoodA r → GoodA (l.foldl setStep r)
  | [], _, h => h
  | x :: l, r, h => setFold_good l _ (setStep_good h x)
theorem setFold_len : ∀ (l r : List Ac), (l.foldl setStep r).length ≤ r.length + l.length
  | [], _ => by simp
  | x :: l, r => by
    have h1 := setFold_len l (setStep r x)
    have h2 := setStep_len r x
    simp only [List.foldl_cons, List.length_cons]
    omega

set_option maxHeartbeats 8000000 in
set_option maxRecDepth 100000 in
theorem set_any (rows : List Ac) (a : Option Addr) (cap : Nat) (l : List Jn) (b : Option Addr) (bcap : Nat) (w : World) {F G : Nat → Prop} (hs : Sl tAc w F a rows) (hl : rows.length ≤ maxLen) (ht : Sl tJn w G b l) (hm : l.length ≤ maxLen) :
    Calls Tryz.prog 9 #[.slice a rows.length cap, .slice b l.length bcap] w (SetP w (setR rows) (fitJ 40 l)) := by
  have HS := Lib.hid hs
  have HT := Lib.hid ht
  have HV := Lib.hid (fit_val 40 l)
  have hlen : (fitJ 40 l).length ≤ 200 := HV.out.len
  have hl' : rows.length ≤ 9223372036854775807 := by unfold maxLen at hl; omega
  clear hs hl ht
  go_enter Tryz.func9, Tryz.ntmps9
  go_wp2_with fail
  go_loopw [9, 10, 11, 12] (fun vo vi v11 v12 wr => ∃ (n : Nat) (vx : Value) (r : List Ac), vx = vo ∧ n ≤ rows.length ∧ n ≤ 30 ∧ vi = .int .i64 n ∧ Hid (r = (rows.take n).foldl setStep []) ∧ OwnL tAc wr w.heap.size vx r ∧ Below w.heap.size w wr) (fun _ vi _ _ _ => rows.length - (intOf vi).toNat)
  case atStart => exact ⟨0, _, [], rfl, Nat.zero_le _, Nat.zero_le _, rfl, Lib.hid rfl, OwnL.nil _ _, Below.refl _ _⟩
  case round =>
    obtain ⟨n, vo, r, rfl, hn, hn30, rfl, hr, ho, hb⟩ := hrel
    have HG : Hid (GoodA r) := Lib.hid (by rw [hr.out]; exact setFold_good _ _ GoodA.nil)
    have hrl : r.length ≤ 30 := by
      rw [hr.out]
      have := setFold_len (rows.take n) []
      rw [List.length_take] at this
      simp only [List.length_nil] at this
      omega
    have HB := Lib.hid hb
    have HO := Lib.hid ho
    obtain ⟨ra, rc, rfl, hrc, hrm, hrs, hrn⟩ := ho.formA
    have HRS := Lib.hid hrs
    have HRN := Lib.hid hrn
    clear hb ho hrs hrn
    by_cases hlt : n < rows.length ∧ n < 30
    · obtain ⟨hlt, h30⟩ := hlt
      obtain ⟨ad, rfl, _, hadl, hc0, hc1, hc2, g0, g1⟩ := ac_at (HS.out.keep fun k hk _ => HB.out.block k hk) n hlt
      have G0 := Lib.hid g0
      have G1 := Lib.hid g1
      have HN0 : Hid ((rows.take (n + 1)).foldl setStep [] = setStep r rows[n]) := Lib.hid (by rw [fold_succA _ _ _ hlt, ← hr.out])
      clear g0 g1
      generalize rows[n] = x at *
      obtain ⟨er, her⟩ : ∃ er, addE r x = er := ⟨_, rfl⟩
      have HC := Lib.hid (add_any r ra rc x wr HRS.out HG.out (by omega) hrc hrm HRN.out G0.out G1.out)
      have HE := Lib.hid her
      clear her
      go_wp2_with fail
      refine HC.out.mono ?_
      rintro en w2 ⟨v', rfl, hok, hb⟩
      rw [HE.out] at hok ⊢
      have HOK := Lib.hid hok
      have HO2 := Lib.hid (HO.out.below hb)
      have HB2 := Lib.hid (belows_then HB.out HB.out.size hb)
      have HBS := HB.out.size
      clear hok hb
      cases her : er == 0
      · have HN1 : Hid (r = (rows.take (n + 1)).foldl setStep []) := Lib.hid (by rw [HN0.out]; unfold setStep; rw [HE.out, her]; rfl)
        go_wp2_with fail
        go_roundw
        case rel => exact ⟨n + 1, _, r, rfl, by omega, by omega, by go_num, HN1, HO2.out, HB2.out⟩
        case measure => simp [intOf]; omega
      · have HN1 : Hid (insA r x = (rows.take (n + 1)).foldl setStep []) := Lib.hid (by rw [HN0.out]; unfold setStep; rw [HE.out, her]; rfl)
        obtain rfl : er = 0 := by simpa using her
        have H3 := Lib.hid ((HOK.out rfl).mono HBS)
        clear her
        go_wp2_with fail
        go_roundw
        case rel => exact ⟨n + 1, _, insA r x, rfl, by omega, by omega, by go_num, HN1, H3.out, HB2.out⟩
        case measure => simp [intOf]; omega
    · have hd : (decide ((n : Int) < (rows.length : Int)) && decide ((n : Int) < 30)) = false := by simp; omega
      have HR : Hid (r = setR rows) := Lib.hid (by
        rw [hr.out]
        unfold setR
        rcases Nat.lt_or_ge n 30 with h | h
        · have : n = rows.length := by omega
          rw [this, List.take_length, List.take_of_length_le (by omega)]
        · have : n = 30 := by omega
          rw [this])
      have hcs : ¬ n < rows.length ∨ n < rows.length ∧ ¬ n < 30 := by omega
      clear hr
      rcases hcs with h1 | ⟨h1, h2⟩
      all_goals
        clear hlt hd
        go_wp2_with fail
        refine (fit_any l b bcap 40 wr (Sl.keep (fun k hk _ => HB.out.block k hk) HT.out) hm (by omega)).mono ?_
        rintro en w1 ⟨v, rfl, ho, hb⟩
        have HB1 := Lib.hid (belows_then HB.out HB.out.size hb)
        obtain ⟨fa, fc, rfl, _, _, hsl⟩ := ho.slice
        have HA := Lib.hid hsl
        have HRS1 := Lib.hid (Sl.keep (fun k hk _ => hb.block k hk) HRS.out)
        clear ho hb hsl
        generalize fitJ 40 l = J at *
        go_wp2_with fail
        refine (l3make_any r ra rc w1 HRS1.out (by omega) HG.out).mono ?_
        rintro en w2 ⟨rfl, mb, hc, hb⟩
        have HB2 := Lib.hid (belows_then HB1.out HB1.out.size hb)
        have HC2 := Lib.hid hc
        have HRS2 := Lib.hid (Sl.keep (fun k hk _ => hb.block k hk) HRS1.out)
        have HA2 := Lib.hid (Sl.keep (fun k hk _ => hb.block k hk) HA.out)
        clear hc hb
        go_wp2_with fail
        refine (lof_yes J fa fc _ HA2.out (by omega) HV.out.incJ HV.out.of).mono ?_
        rintro en w3 ⟨g, ga, gc, rfl, hg, hat, hb⟩
        have HB3 := Lib.hid (belows_then HB2.out HB2.out.size hb)
        have HC3 := Lib.hid (HC2.out.below hb)
        have HRS3 := Lib.hid (Sl.keep (fun k hk _ => hb.block k hk) HRS2.out)
        have HA3 := Lib.hid (Sl.keep (fun k hk _ => hb.block k hk) HA2.out)
        have HAT := Lib.hid hat
        clear hb hat hg
        go_wp2_with fail
        refine bodyPost_ret (v := .tuple #[.pointer (some ⟨w1.heap.size, 0, none⟩), .pointer (some ⟨g, 0, none⟩), .slice ra r.length rc, .slice fa J.length fc, .bool true]) (by simp [results, Tryz.results9, go_sem]) rfl ?_
        rw [← HR.out]
        refine ⟨w1.heap.size, g, ra, fa, ga, rc, fc, gc, mb, rfl, HC3.out, ⟨HAT.out.cell, Sl.mono (fun k _ hk => ?_) HAT.out.sl, HAT.out.len, HAT.out.cap⟩, Sl.mono (fun _ _ _ => trivial) HRS3.out, Sl.mono (fun _ _ _ => trivial) HA3.out, HB3.out⟩
        have h1 : w2.heap.size ≤ k := hk
        have h2 := HB2.out.size
        omega
end Go.Proofs.YtfnmlpnncjhnmaaGreat


/- TrialTells: the sums by account and by partner, or the error; they come to 0; lists kept. -/
set_option linter.unusedVariables false
set_option linter.unusedSimpArgs false
namespace Go.Proofs.YtfnmlpnncjhnmaaGreat
open Go.RowKit Go.Maps Go.Deep

set_option maxHeartbeats 4000000 in
theorem tPartners_nil (e f t : Int) (w : World) : Calls Tryz.prog 12 #[.pointer none, tofv e f t] w fun en w' => en = .returned (.tuple #[.slice none 0 0, .int .i64 1]) ∧ Below w.heap.size w w' := by
  have HZ := Lib.hid (blk_new w (.cells #[.int .i64 e, .int .i64 f, .int .i64 t] 31))
  have HB := Lib.hid ((Below.refl w.heap.size w).alloc (Nat.le_refl _) (.cells #[.int .i64 e, .int .i64 f, .int .i64 t] 31))
  go_enter Tryz.func12, Tryz.ntmps12
  go_wp2_with fail
  refine (tBalances_nil e f t _).mono ?_
  rintro en w2 ⟨rfl, hb⟩
  have HB2 := Lib.hid (belows_then HB.out HB.out.size hb)
  clear hb
  go_wp2_with fail
  go_ret2
  exact ⟨rfl, HB2.out⟩

set_option maxHeartbeats 16000000 in
set_option maxRecDepth 100000 in
theorem trialTells_any (l : List Jn) (la : Option Addr) (lc : Nat) (e f t : Int) (hfi : I64 f) (hti : I64 t) (w : World) {G : Nat → Prop} (ht : Sl tJn w G la l) (hm : l.length ≤ maxLen) :
    Calls Tryz.prog 3 #[.slice la l.length lc, .int .i64 e, .int .i64 f, .int .i64 t] w fun en w' => en = .returned (.bool true) ∧ Below w.heap.size w w' := by
  have HT := Lib.hid ht
  have HFI := Lib.hid hfi
  have HTI := Lib.hid hti
  clear ht hfi hti
  go_enter Tryz.func3, Tryz.ntmps3
  go_wp2_with fail
  refine (few_any l la lc 40 _ HT.out hm (by omega)).mono ?_
  rintro en w1 ⟨b, rfl, _, hb⟩
  have HB1 := Lib.hid hb
  clear hb
  cases b
  · go_wp2_with fail
    refine (alive10 w1).mono ?_
    rintro en w2 ⟨rfl, hb⟩
    have HB2 := Lib.hid (belows_then HB1.out HB1.out.size hb)
    clear hb
    go_wp2_with fail
    go_ret
    exact ⟨rfl, HB2.out⟩
  · go_wp2_with fail
    refine (alive10 w1).mono ?_
    rintro en w2 ⟨rfl, hb⟩
    have HB2 := Lib.hid (belows_then HB1.out HB1.out.size hb)
    clear hb HB1
    go_wp2_with fail
    refine (set_any [] none 0 l la lc w2 (F := fun _ => True) (fun i x hx => by simp at hx) (by simp) (Sl.keep (fun k hk _ => HB2.out.block k hk) HT.out) hm).mono ?_
    rintro en w3 ⟨c, g, xa, fa, ga, xc, fc, gc, mb, rfl, _, hg, _, hfa, hb⟩
    have HB3 := Lib.hid (belows_then HB2.out HB2.out.size hb)
    have HV := Lib.hid (fit_val 40 l)
    have hJl : (fitJ 40 l).length ≤ 40 := fitJ_len 40 l [] (by simp)
    generalize fitJ 40 l = J at *
    have HBA := Lib.hid ((Below.refl w3.heap.size w3).alloc (Nat.le_refl _) (.cells #[.int .i64 e, .int .i64 f, .int .i64 t] 31))
    have HG := Lib.hid (hg.below HBA.out)
    have HFA : Hid (Sl tJn (w3.alloc (.cells #[.int .i64 e, .int .i64 f, .int .i64 t] 31)) (fun _ => True) fa J) := Lib.hid (Sl.keep (fun k hk _ => HBA.out.block k hk) hfa)
    have HZA := Lib.hid (blk_new w3 (.cells #[.int .i64 e, .int .i64 f, .int .i64 t] 31))
    have HB4 := Lib.hid (belows_then HB3.out HB3.out.size HBA.out)
    have HRB := Lib.hid (r10Balances_all J fa fc e f t (w3.alloc (.cells #[.int .i64 e, .int .i64 f, .int .i64 t] 31)) HFA.out HV.out)
    obtain ⟨lst, ber, hbt⟩ : ∃ lst ber, balT J e f t = (lst, ber) := ⟨_, _, rfl⟩
    have HBT := Lib.hid hbt
    have hll : lst.length ≤ 800 := by have := balT_len HV.out.good (by omega) e f t; rw [hbt] at this; exact this
    have HBE : Hid (ber = 0 ∨ ber = 1 ∨ ber = 2) := Lib.hid (by have := balT_err J e f t; rw [hbt] at this; exact this)
    have HPT : Hid (parT J e f t = if ber == 0 then (parR J e f t, 0) else ([], ber)) := Lib.hid (by unfold parT; rw [hbt])
    have HSUM : Hid (ber = 0 → addM (lst.map (·.2)) = (0, 0)) := Lib.hid (fun h => by have := sum_ok HV.out (e := e) (f := f) (t := t) (by rw [hbt]; exact h); rw [hbt] at this; exact this)
    rw [hbt] at HRB
    clear hg hfa hb HB2 HT HB3 hbt
    go_wp2_with fail
    refine HRB.out.mono ?_
    rintro en w4 ⟨v, rfl, ho, hb⟩
    obtain ⟨ba, bc, rfl⟩ := ho.isSl
    have HBAL : Hid (Sl tBal w4 (fun _ => True) ba lst) := Lib.hid ho.slice'
    have HG4 := Lib.hid (HG.out.below hb)
    have HFA4 := Lib.hid (Sl.keep (fun k hk _ => hb.block k hk) HFA.out)
    have HZ4 := Lib.hid (blk_below HZA.out hb)
    have HW4 := Lib.hid (belows_then HB4.out HB4.out.size hb)
    have HPN : Hid (BothN (w4.alloc (.cells (bookBP (.slice none 0 0) (.slice none 0 0) (.slice none 0 0) (.slice none 0 0)) 48)) w4.heap.size 0) := Lib.hid (both_new (blk_new w4 _))
    have HBB : Hid (Below w4.heap.size w4 (w4.alloc (.cells (bookBP (.slice none 0 0) (.slice none 0 0) (.slice none 0 0) (.slice none 0 0)) 48))) := Lib.hid ((Below.refl _ _).alloc (Nat.le_refl _) _)
    have hzl := blk_lt HZ4.out
    obtain ⟨B, hB⟩ : ∃ B, w4.heap.size = B := ⟨_, rfl⟩
    rw [hB] at HPN HBB
    clear ho hb HG HFA HZA HBA HB4 HRB
    simp only
    go_wp2_with fail
    refine abs_world (S := fun wx => wx = w4.alloc (.cells (bookBP (.slice none 0 0) (.slice none 0 0) (.slice none 0 0) (.slice none 0 0)) 48)) ?_ rfl
    rintro wy hwy
    rw [← hwy] at HPN HBB
    clear hwy
    go_loopw [18, 19, 20, 21, 22, 23, 24] (fun vk v19 v20 v21 v22 v23 v24 wr => ∃ (k : Nat), vk = .int .i64 k ∧ k ≤ 2 ∧ Hid (BothN wr B k) ∧ Hid (Below B w4 wr)) (fun vk _ _ _ _ _ _ _ => 2 - (intOf vk).toNat)
    case atStart => exact ⟨0, rfl, by omega, HPN, HBB⟩
    case round =>
      obtain ⟨k, rfl, hk, HP, HB⟩ := hrel
      have hbr : Below w4.heap.size w4 wr := by rw [hB]; exact HB.out
      have HG := Lib.hid (HG4.out.below hbr)
      have HZ := Lib.hid (blk_below HZ4.out hbr)
      have hz := blk_cells HZ.out
      have hzlr := blk_lt HZ.out
      have hBr : B < wr.heap.size := HP.out.lt
      clear hbr HBB HPN
      by_cases hlt : k < 2
      · have HM := Lib.hid (balances_any HG.out (by omega) HV.out.good e f t HFI.out HTI.out)
        rw [HBT.out] at HM
        go_wp2_with fail
        refine HM.out.mono ?_
        rintro en w6 ⟨vx, rfl, hox, hb6⟩
        obtain ⟨xa1, xc1, rfl⟩ := hox.isSl
        have HOX := Lib.hid hox
        have HB6 := Lib.hid hb6
        have hz6 := blk_cells (blk_below HZ.out hb6)
        have hzl6 := blk_lt (blk_below HZ.out hb6)
        have HM2 := Lib.hid (partnersT_any (HG.out.below hb6) (by omega) HV.out.good e f t HFI.out HTI.out)
        clear hox hb6 HM hz hzlr
        simp only
        go_wp2_with fail
        refine HM2.out.mono ?_
        rintro en w7 ⟨vy, rfl, hoy, hb7⟩
        obtain ⟨ya, yc, rfl⟩ := hoy.isSl
        obtain ⟨py, hpy⟩ : ∃ py, parT J e f t = py := ⟨_, rfl⟩
        have HPY := Lib.hid hpy
        rw [hpy] at hoy ⊢
        have hpl : py.1.length ≤ 100000 := by
          have h := HPT.out
          rw [hpy] at h
          rw [h]
          split
          · show (parR J e f t).length ≤ _
            rw [par_is HV.out]
            have h1 := List.length_filter_le nzB (refS (toP (linesOf J e f t)))
            have h2 := (refS_all _ (toP (linesOf J e f t)) rfl).2.2
            have h3 := toP_len (linesOf J e f t)
            have h4 := linesOf_len HV.out.good (by omega : J.length ≤ 1000) e f t
            omega
          · simp
        have HPP : Hid (py = if ber == 0 then (parR J e f t, 0) else ([], ber)) := Lib.hid (by rw [← hpy]; exact HPT.out)
        obtain ⟨m, per⟩ := py
        simp only at hoy hpl ⊢
        have hap : ApartV (.slice xa1 lst.length xc1) (.slice ya m.length yc) := (apart_new (fun k hk => (hoy.lt k hk).1) (fun k hk => (HOX.out.lt k hk).2)).symm
        have HKB := Lib.hid (both_bal HP.out (belows_then HB6.out HB6.out.size hb7) (HOX.out.below hb7) (hoy.mono HB6.out.size) hap (by omega) hpl (by omega))
        have HB7 := Lib.hid (HB.out.trans ((belows_then HB6.out HB6.out.size hb7).mono (Nat.le_of_lt hBr)))
        have hs7 : B ≤ w7.heap.size := by have := HB6.out.size; have := hb7.size; omega
        clear hoy hb7 hpy hap HM2 hz6 hzl6 HOX HB6 HZ HG HP
        go_wp2_with fail
        refine HKB.out.mono ?_
        rintro en w8 ⟨rfl, hbu, hh⟩
        have HKP := Lib.hid (both_pair hh (by omega))
        have HB8 := Lib.hid (But.toBelow HB7.out hbu (fun k h => h) hs7)
        have hs8 : B ≤ w8.heap.size := by have := hbu.size; omega
        clear hbu hh HKB
        go_wp2_with fail
        refine HKP.out.mono ?_
        rintro en w9 ⟨rfl, hbu, hp9, hox, hoy⟩
        have HP9 := Lib.hid hp9
        have HOX := Lib.hid hox
        have HOY := Lib.hid hoy
        have HB9 := Lib.hid (But.toBelow HB8.out hbu (fun k h => h) hs8)
        have hbr : Below w4.heap.size w4 w9 := by rw [hB]; exact HB9.out
        have HBL := Lib.hid (Sl.keep (fun k hk _ => hbr.block k hk) HBAL.out)
        have HFA := Lib.hid (Sl.keep (fun k hk _ => hbr.block k hk) HFA4.out)
        clear hbu hp9 hox hoy HKP HB7 HB8 hbr
        go_wp2_with fail
        refine (sameBal_any lst lst xa1 ba xc1 bc w9 HOX.out.slice' HBL.out (by unfold maxLen; omega) (by unfold maxLen; omega) (r := true) (by simp)).mono ?_
        rintro en wa ⟨rfl, hb⟩
        have HBa := Lib.hid hb
        clear hb
        have hcs : ber = 0 ∨ ber = 1 ∨ ber = 2 := HBE.out
        rcases hcs with rfl | rfl | rfl
        · have hpp := HPP.out
          simp only [beq_self_eq_true, if_true, Prod.mk.injEq] at hpp
          obtain ⟨hm1, rfl⟩ := hpp
          have HM1 := Lib.hid hm1
          clear HPP hm1
          go_wp2_with fail
          refine (r10Partners_any J fa fc e f t wa (Sl.keep (fun k hk _ => HBa.out.block k hk) HFA.out) HV.out).mono ?_
          rintro en wb ⟨vp, rfl, ho, hb⟩
          obtain ⟨pa, pc, rfl⟩ := ho.isSl
          have HOP := Lib.hid ho.sl
          have HBb := Lib.hid (belows_then HBa.out HBa.out.size hb)
          have hml : m.length ≤ maxLen := by unfold maxLen; omega
          have hpl2 : (parR J e f t).length ≤ maxLen := by rw [← HM1.out]; exact hml
          clear ho hb
          generalize parR J e f t = P at *
          go_wp2_with fail
          refine (samePair_is m P ya pa yc pc wb (HOY.out.below HBb.out).sl HOP.out hml hpl2 HM1.out).mono ?_
          rintro en wc ⟨rfl, hb⟩
          have HBc := Lib.hid (belows_then HBb.out HBb.out.size hb)
          have hts := tsum_any lst xa1 xc1 wc (HOX.out.below HBc.out).slice' (by omega)
          rw [HSUM.out (by first | trivial | rfl)] at hts
          have HTS := Lib.hid hts
          clear hb hts hml hpl2
          go_wp2_with fail
          refine HTS.out.mono ?_
          rintro en wd ⟨rfl, hb⟩
          have HBd := Lib.hid (belows_then HBc.out HBc.out.size hb)
          have HPd := Lib.hid (HP9.out.below HBd.out)
          have HB4d := Lib.hid (HB9.out.trans (HBd.out.mono (Nat.le_of_lt HP9.out.lt)))
          clear hb HTS
          have h60 : (lst.length : Int) ≤ 60 ∨ ¬ (lst.length : Int) ≤ 60 := by omega
          rcases h60 with h60 | h60
          all_goals
            go_wp2_with fail
            go_roundw
            case rel => exact ⟨k + 1, by go_num, by omega, HPd, HB4d⟩
            case measure => simp [intOf]; omega
        · have hpp := HPP.out
          simp at hpp
          obtain ⟨rfl, rfl⟩ := hpp
          clear HPP
          simp only [List.length_nil] at *
          go_wp2_with fail
          have HPa := Lib.hid (HP9.out.below HBa.out)
          have HB4a := Lib.hid (HB9.out.trans (HBa.out.mono (Nat.le_of_lt HP9.out.lt)))
          go_roundw
          case rel => exact ⟨k + 1, by go_num, by omega, HPa, HB4a⟩
          case measure => simp [intOf]; omega
        · have hpp := HPP.out
          simp at hpp
          obtain ⟨rfl, rfl⟩ := hpp
          clear HPP
          simp only [List.length_nil] at *
          go_wp2_with fail
          obtain ⟨q, hq⟩ : ∃ q, addM (lst.map (·.2)) = q := ⟨_, rfl⟩
          have hts := tsum_any lst xa1 xc1 wa (HOX.out.below HBa.out).slice' (by omega)
          rw [hq] at hts
          have HTS := Lib.hid hts
          clear hts hq
          refine HTS.out.mono ?_
          rintro en wd ⟨rfl, hb⟩
          have HBd := Lib.hid (belows_then HBa.out HBa.out.size hb)
          have HPd := Lib.hid (HP9.out.below HBd.out)
          have HB4d := Lib.hid (HB9.out.trans (HBd.out.mono (Nat.le_of_lt HP9.out.lt)))
          clear hb HTS
          go_wp2_with fail
          go_roundw
          case rel => exact ⟨k + 1, by go_num, by omega, HPd, HB4d⟩
          case measure => simp [intOf]; omega
      · obtain rfl : k = 2 := by omega
        go_wp2_with fail
        refine (tBalances_nil e f t wr).mono ?_
        rintro en wa ⟨rfl, hb⟩
        have HBa := Lib.hid hb
        have hza := blk_cells (blk_below HZ.out hb)
        have hzla := blk_lt (blk_below HZ.out hb)
        clear hb hz hzlr
        go_wp2_with fail
        refine (tPartners_nil e f t wa).mono ?_
        rintro en wb ⟨rfl, hb⟩
        have HBb := Lib.hid (belows_then HBa.out HBa.out.size hb)
        clear hb hza hzla
        have HPb := Lib.hid (HP.out.below HBb.out)
        go_wp2_with fail
        refine (kapart_both HPb.out (by omega)).mono ?_
        rintro en wc ⟨rfl, hbu⟩
        have HBC := Lib.hid (But.toBelow (HB.out.trans (HBb.out.mono (Nat.le_of_lt hBr))) hbu (fun k h => h) (Nat.le_of_lt HPb.out.lt))
        clear hbu
        go_wp2_with fail
        go_ret
        exact ⟨rfl, HW4.out.trans (HBC.out.mono (by rw [← hB]; exact HW4.out.size))⟩

theorem trialTells_row (a0 : Option Addr) (len0 cap0 : Nat) (x0 : List Jn) (e f t : Int) (w : World) (y0 : tJns.R w (fun _ => True) [.slice a0 len0 cap0] x0) (h1 : I64 e) (h2 : I64 f) (h3 : I64 t) :
    Calls Tryz.prog 3 #[.slice a0 len0 cap0, .int .i64 e, .int .i64 f, .int .i64 t] w fun en w' => en = .returned (.bool true) ∧ Below w.heap.size w w' := by
  obtain ⟨a, cap, hv, hs, g1, g2, _⟩ := y0
  simp only [List.cons.injEq, Value.slice.injEq, and_true] at hv
  obtain ⟨rfl, rfl, rfl⟩ := hv
  exact trialTells_any x0 a0 cap0 e f t h2 h3 w hs (Nat.le_trans g1 g2)
end Go.Proofs.YtfnmlpnncjhnmaaGreat
