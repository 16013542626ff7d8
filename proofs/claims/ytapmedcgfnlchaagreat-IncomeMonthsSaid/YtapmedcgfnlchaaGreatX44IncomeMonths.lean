/- IncomeMonths: what each month earned; together what all of them did. -/
import Derived.Test.YtapmedcgfnlchaaGreatX36IncomeMonths
import Derived.Test.YtapmedcgfnlchaaGreatX37IncomeMonths
import Derived.Test.YtapmedcgfnlchaaGreatX42IncomeMonths
import Derived.Test.YtapmedcgfnlchaaGreatX43IncomeMonths
set_option linter.unusedVariables false
set_option linter.unusedSimpArgs false
namespace Go.Proofs.YtapmedcgfnlchaaGreat
open Go.RowKit Go.Maps Go.Deep

/-- what a month came to, as the document makes it -/
theorem mon_is {r : List Ac} {J : List Jn} {e p : Int} {l : List (Int × Int)} {er : Int} (h : balT J e p p = (l, er)) :
    ((er == 0 && netF r l) = true → (incM r J e p p).2 = 0 ∧ (incM r J e p p).1.2.2 = netA r l - netB r l) ∧ ((er == 0 && netF r l) = false → (incM r J e p p).2 ≠ 0) := by
  have hf := balT_fit (J := J) (e := e) (f := p) (t := p)
  rw [h] at hf
  obtain ⟨h1, h2⟩ := net_is (r := r) hf
  rw [incM_is h]
  by_cases h0 : er = 0
  · subst h0
    simpa using ⟨h1, h2⟩
  · have h3 : (er != 0) = true := by simpa using h0
    have h4 : (er == 0) = false := by simpa using h0
    rw [h3, h4]
    simp
    exact h0
theorem netsL_bd (r : List Ac) (J : List Jn) (e f : Int) : ∀ n : Nat, -(1000000000000000 * (n : Int)) ≤ sumI (netsL r J e f n) ∧ sumI (netsL r J e f n) ≤ 1000000000000000 * (n : Int)
  | 0 => by simp [netsL, sumI]
  | n + 1 => by
    have ih := netsL_bd r J e f n
    rw [netsL_succ, sumI_app]
    have h := incM_fit r J e (f + (n : Int)) (f + (n : Int))
    have hb : -1000000000000000 ≤ (monU r J e f n).1.2.2 ∧ (monU r J e f n).1.2.2 ≤ 1000000000000000 := by simpa [fitsB, monU] using h
    simp only [sumI]
    omega
theorem lines_empty (J : List Jn) (e f : Int) : linesOf J e f (f - 1) = [] := by
  unfold linesOf
  have : J.filter (cnt e f (f - 1)) = [] := by
    rw [List.filter_eq_nil_iff]
    intro j _
    unfold cnt
    simp
    intro _ _ h
    omega
  rw [this]
  rfl
/-- together the months are what all of them did -/
theorem months_sum {r : List Ac} {J : List Jn} (hV : ValJ J) (e f : Int) : ∀ n : Nat, (∀ k, k < n → (monU r J e f k).2 = 0) → sumI (netsL r J e f n) = -sumQ (kB r [4]) (linesOf J e f (f + (n : Int) - 1)) - sumQ (kB r [5]) (linesOf J e f (f + (n : Int) - 1))
  | 0, _ => by
    have e1 : f + ((0 : Nat) : Int) - 1 = f - 1 := by omega
    rw [e1, lines_empty]
    rfl
  | n + 1, h => by
    have ih := months_sum hV e f n (fun k hk => h k (by omega))
    rw [netsL_succ, sumI_app, ih]
    have hn : (incM r J e (f + (n : Int)) (f + (n : Int))).2 = 0 := h n (by omega)
    have hs := net_sum hV hn
    have e1 : f + ((n + 1 : Nat) : Int) - 1 = f + (n : Int) := by omega
    rw [e1, lines_split _ e f (f + (n : Int)) (f + (n : Int)) (by omega) (by omega), lines_split _ e f (f + (n : Int)) (f + (n : Int)) (by omega) (by omega)]
    have hm : (monU r J e f n).1.2.2 = (incM r J e (f + (n : Int)) (f + (n : Int))).1.2.2 := rfl
    rw [hm, hs]
    simp only [sumI]
    omega
theorem months_all {r : List Ac} {J : List Jn} (hV : ValJ J) (e f : Int) (N : Nat) (h : ∀ k, k ≤ N → (monU r J e f k).2 = 0) (h0 : (incM r J e f (f + (N : Int))).2 = 0) : (incM r J e f (f + (N : Int))).1.2.2 = sumI (netsL r J e f (N + 1)) := by
  rw [net_sum hV h0, months_sum hV e f (N + 1) (fun k hk => h k (by omega))]
  have e1 : f + ((N + 1 : Nat) : Int) - 1 = f + (N : Int) := by omega
  rw [e1]

set_option maxHeartbeats 16000000 in
set_option maxRecDepth 100000 in
theorem incomeMonths_any (rows : List Ac) (ra : Option Addr) (rc : Nat) (l : List Jn) (la : Option Addr) (lc : Nat) (e f n : Int) (w : World) {F G : Nat → Prop} (hs : Sl tAc w F ra rows) (hl : rows.length ≤ maxLen) (ht : Sl tJn w G la l) (hm : l.length ≤ maxLen) :
    Calls Tryz.prog 3 #[.slice ra rows.length rc, .slice la l.length lc, .int .i64 e, .int .i64 f, .int .i64 n] w fun en w' => en = .returned (.bool true) ∧ Below w.heap.size w w' := by
  have HS := Lib.hid hs
  have HT := Lib.hid ht
  clear hs ht
  go_enter Tryz.func3, Tryz.ntmps3
  go_wp2_with fail
  refine (few_any l la lc 40 _ HT.out hm (by omega)).mono ?_
  rintro en w1 ⟨b, rfl, _, hb⟩
  have HB1 := Lib.hid hb
  clear hb
  cases b
  · go_wp2_with fail
    refine (alive11 w1).mono ?_
    rintro en w2 ⟨rfl, hb⟩
    have HB2 := Lib.hid (belows_then HB1.out HB1.out.size hb)
    clear hb
    go_wp2_with fail
    go_ret
    exact ⟨rfl, HB2.out⟩
  · have hcs : (f < 0 ∨ 0 ≤ f ∧ (1100 < f ∨ f ≤ 1100 ∧ (n < 0 ∨ 0 ≤ n ∧ (30 < n ∨ n ≤ 30 ∧ (e < 1 ∨ 1 ≤ e ∧ 9 < e))))) ∨ (0 ≤ f ∧ f ≤ 1100 ∧ 0 ≤ n ∧ n ≤ 30 ∧ 1 ≤ e ∧ e ≤ 9) := by omega
    rcases hcs with h1 | ⟨h1, h2, h3, h4, h5, h6⟩
    · rcases h1 with h1 | ⟨h1, h2 | ⟨h2, h3 | ⟨h3, h4 | ⟨h4, h5 | ⟨h5, h6⟩⟩⟩⟩⟩
      all_goals
        go_wp2_with fail
        refine (alive11 w1).mono ?_
        rintro en w2 ⟨rfl, hb⟩
        have HB2 := Lib.hid (belows_then HB1.out HB1.out.size hb)
        clear hb
        go_wp2_with fail
        go_ret
        exact ⟨rfl, HB2.out⟩
    · obtain ⟨N, rfl⟩ : ∃ N : Nat, n = (N : Int) := ⟨n.toNat, by omega⟩
      go_wp2_with fail
      refine (alive11 w1).mono ?_
      rintro en w2 ⟨rfl, hb⟩
      have HB2 := Lib.hid (belows_then HB1.out HB1.out.size hb)
      clear hb HB1
      go_wp2_with fail
      refine (set_any rows ra rc l la lc w2 (Sl.keep (fun k hk _ => HB2.out.block k hk) HS.out) hl (Sl.keep (fun k hk _ => HB2.out.block k hk) HT.out) hm).mono ?_
      rintro en w3 ⟨c, g, xa, fa, ga, xc, fc, gc, mb, rfl, hc, hg, hxa, hfa, hb⟩
      have HB3 := Lib.hid (belows_then HB2.out HB2.out.size hb)
      have HV := Lib.hid (fit_val 40 l)
      have hJl : (fitJ 40 l).length ≤ 40 := fitJ_len 40 l [] (by simp)
      have hrl : (setR rows).length ≤ 30 := by
        have := setFold_len (rows.take 30) []
        rw [List.length_take] at this
        simp only [List.length_nil] at this
        unfold setR
        omega
      generalize fitJ 40 l = J at *
      generalize setR rows = r at *
      have HBA := Lib.hid ((Below.refl w3.heap.size w3).alloc (Nat.le_refl _) (.cells #[.int .i64 e, .int .i64 f, .int .i64 (f + (N : Int))] 31))
      have HC := Lib.hid (hc.below HBA.out)
      have HG := Lib.hid (hg.below HBA.out)
      have HXA := Lib.hid (Sl.keep (fun k hk _ => HBA.out.block k hk) hxa)
      have HFA := Lib.hid (Sl.keep (fun k hk _ => HBA.out.block k hk) hfa)
      have HZA := Lib.hid (blk_new w3 (.cells #[.int .i64 e, .int .i64 f, .int .i64 (f + (N : Int))] 31))
      have HB4 := Lib.hid (belows_then HB3.out HB3.out.size HBA.out)
      have hwn : IntKind.i64.wrap (f + (N : Int)) = f + (N : Int) := wrap_is (by omega) (by omega)
      clear hc hg hxa hfa hb HB2 HS HT HB3
      go_wp2_with fail
      refine (iMonths_any HC.out HG.out (by omega) HV.out.good e f N h1 (by omega)).mono ?_
      rintro en w5 ⟨hmp, hb⟩
      have hmq : ∃ (ma : Option Addr) (ml mc : Nat) (er : Int), en = .returned (.tuple #[.slice ma ml mc, .int .i64 er]) ∧ ((∀ k, k ≤ N → (monU r J e f k).2 = 0) ∧ er = 0 ∧ ml = (netsL r J e f (N + 1)).length ∧ Sl tInt w5 (fun _ => True) ma (netsL r J e f (N + 1)) ∨ (∃ k, k ≤ N ∧ (monU r J e f k).2 ≠ 0) ∧ er ≠ 0 ∧ ml = 0) := by
        rcases hmp with ⟨hall, v, rfl, ho⟩ | ⟨hbad, er, her, rfl⟩
        · obtain ⟨a, c, rfl, _, _, hs⟩ := ho.slice
          exact ⟨a, _, c, 0, rfl, .inl ⟨hall, rfl, rfl, hs⟩⟩
        · exact ⟨none, 0, 0, er, rfl, .inr ⟨hbad, her, rfl⟩⟩
      obtain ⟨ma, ml, mc, er, rfl, hmq⟩ := hmq
      have HMQ := Lib.hid hmq
      have HB5 := Lib.hid (belows_then HB4.out HB4.out.size hb)
      have HC5 := Lib.hid (HC.out.below hb)
      have HG5 := Lib.hid (HG.out.below hb)
      have HXA5 := Lib.hid (Sl.keep (fun k hk _ => hb.block k hk) HXA.out)
      have HFA5 := Lib.hid (Sl.keep (fun k hk _ => hb.block k hk) HFA.out)
      have HZ5 := Lib.hid (blk_below HZA.out hb)
      have hz5 := blk_cells HZ5.out
      have hzl5 := blk_lt HZ5.out
      obtain ⟨u, hu⟩ : ∃ u, incM r J e f (f + (N : Int)) = u := ⟨_, rfl⟩
      have HM := Lib.hid (iMake_any HC5.out HG5.out (by omega) HV.out.good e f (f + (N : Int)) (i64_ofB (by omega) (by omega)) (i64_ofB (by omega) (by omega)) hu)
      have HUA : Hid ((∀ k, k ≤ N → (monU r J e f k).2 = 0) → u.2 = 0 → u.1.2.2 = sumI (netsL r J e f (N + 1))) := Lib.hid (fun h h0 => by
        have := months_all HV.out e f N h (by rw [hu]; exact h0)
        rwa [hu] at this)
      obtain ⟨⟨u1, u2, u3⟩, uer⟩ := u
      simp only at HUA
      clear hmp hmq hb hu HC HG HXA HFA HZA HBA HB4
      go_wp2_with fail
      refine HM.out.mono ?_
      rintro en w6 hq
      obtain ⟨p1, n1, q1, p2, n2, q2, rfl, hb⟩ := incQ_slices hq
      have hba := hb.alloc hb.size (.cells #[.slice p1 n1 q1, .slice p2 n2 q2, .int .i64 u1, .int .i64 u2, .int .i64 u3] 38)
      have HB6 := Lib.hid (belows_then HB5.out HB5.out.size hba)
      have HXA6 := Lib.hid (Sl.keep (fun k hk _ => hba.block k hk) HXA5.out)
      have HFA6 := Lib.hid (Sl.keep (fun k hk _ => hba.block k hk) HFA5.out)
      have HZ6 := Lib.hid (blk_new w6 (.cells #[.slice p1 n1 q1, .slice p2 n2 q2, .int .i64 u1, .int .i64 u2, .int .i64 u3] 38))
      have HMK : Hid (∀ L, Sl tInt w5 (fun _ => True) ma L → Sl tInt (w6.alloc (.cells #[.slice p1 n1 q1, .slice p2 n2 q2, .int .i64 u1, .int .i64 u2, .int .i64 u3] 38)) (fun _ => True) ma L) := Lib.hid (fun L h => Sl.keep (fun k hk _ => hba.block k hk) h)
      simp only
      obtain ⟨i0, hi, hz0, hz1, hz2⟩ := info_parts infoInt
      clear hq hb hba hz5 hzl5 HM HC5 HG5 HXA5 HFA5 HZ5 HB5
      go_wp2_with fail
      refine abs_world (S := fun wx => wx = w6.alloc (.cells #[.slice p1 n1 q1, .slice p2 n2 q2, .int .i64 u1, .int .i64 u2, .int .i64 u3] 38)) ?_ rfl
      rintro wy hwy
      rw [← hwy] at HB6 HXA6 HFA6 HZ6 HMK
      clear hwy
      go_loopw [21, 22, 23, 24, 25, 26, 27, 28] (fun vo vs vp v24 v25 v26 v27 v28 wr => ∃ (k : Nat) (vx : Value), vx = vo ∧ k ≤ N + 1 ∧ vp = .int .i64 (f + (k : Int)) ∧ vs = .int .i64 (sumI (netsL r J e f k)) ∧ Hid (∀ j, j < k → (monU r J e f j).2 = 0) ∧ OwnL tInt wr wy.heap.size vx (netsL r J e f k) ∧ Below wy.heap.size wy wr) (fun _ _ vp _ _ _ _ _ _ => (f + (N : Int) + 1 - intOf vp).toNat)
      case atStart => exact ⟨0, _, rfl, Nat.zero_le _, by simp, rfl, Lib.hid (fun k hk => by omega), OwnL.nil _ _, Below.refl _ _⟩
      case round =>
        obtain ⟨k, vo, rfl, hk, rfl, rfl, hall, ho, hb⟩ := hrel
        have HO := Lib.hid ho
        have HB := Lib.hid hb
        have HBW := Lib.hid (HB6.out.trans (hb.mono HB6.out.size))
        clear ho hb
        by_cases hlt : k ≤ N
        · have hle : f + (k : Int) ≤ f + (N : Int) := by omega
          obtain ⟨p, hp⟩ : ∃ p, f + (k : Int) = p := ⟨_, rfl⟩
          obtain ⟨lst, ber, hbt⟩ : ∃ lst ber, balT J e p p = (lst, ber) := ⟨_, _, rfl⟩
          have HBL := Lib.hid (r10Balances_any J fa fc e p p wr (Sl.keep (fun k hk _ => HB.out.block k hk) HFA6.out) HV.out h5 h6 (by unfold monthOk; simp; omega) (by unfold monthOk; simp; omega) (Int.le_refl _))
          have HFT : Hid (∀ x ∈ lst, fitsB x.2 = true) := Lib.hid (by have := balT_fit (J := J) (e := e) (f := p) (t := p); rw [hbt] at this; exact this)
          have hll : lst.length ≤ 800 := by have := balT_len HV.out.good (by omega) e p p; rw [hbt] at this; exact this
          have hmi := mon_is (r := r) hbt
          have hun : monU r J e f k = incM r J e p p := by unfold monU; rw [hp]
          rw [← hun] at hmi
          have HMI := Lib.hid hmi
          rw [hbt] at HBL
          have HNS := Lib.hid (netsL_succ r J e f k)
          have hsb := netsL_bd r J e f k
          have hfit := incM_fit r J e p p
          rw [← hun] at hfit
          have hnb := pickS_bd r 4 true lst HFT.out
          have hnb2 := pickS_bd r 5 false lst HFT.out
          change _ ≤ netA r lst ∧ netA r lst ≤ _ at hnb
          change _ ≤ netB r lst ∧ netB r lst ≤ _ at hnb2
          have hlen : (netsL r J e f k).length ≤ 1200 := by unfold netsL; rw [List.length_map, List.length_range]; omega
          clear hbt hmi hun
          rw [hp]
          go_wp2_with fail
          refine HBL.out.mono ?_
          rintro en w7 ⟨v, rfl, ho, hb⟩
          have HB7 := Lib.hid (belows_then HB.out HB.out.size hb)
          have HO7 := Lib.hid (HO.out.below hb)
          obtain ⟨ba, bc, rfl, _, _, hbs⟩ := ho.slice
          have HNT := Lib.hid (r10Net_any r xa xc lst ba bc w7 (Sl.keep (fun k hk _ => HB7.out.block k hk) HXA6.out) (by unfold maxLen; omega) hbs (by omega) HFT.out)
          clear ho hb hbs HBL
          simp only
          go_wp2_with fail
          refine HNT.out.mono ?_
          rintro en w8 ⟨rfl, hb⟩
          have HB8 := Lib.hid (belows_then HB7.out HB7.out.size hb)
          have HO8 := Lib.hid (HO7.out.below hb)
          clear hb HNT
          generalize netA r lst = A at *
          generalize netB r lst = B at *
          generalize netF r lst = q at *
          have hbad : (ber == 0 && q) = false → (monU r J e f k).2 ≠ 0 := HMI.out.2
          by_cases hbe : ber = 0
          · subst hbe
            cases q
            · have hmu := HMI.out.2 rfl
              rcases HMQ.out with ⟨hal, _⟩ | ⟨_, her, rfl⟩
              · exact absurd (hal k hlt) hmu
              · have her' : (er != 0) = true := by simpa using her
                clear hbad HMI hmu her
                have HBF := Lib.hid (HB6.out.trans (HB8.out.mono HB6.out.size))
                go_wp2_with fail
                go_ret
                exact ⟨by first | rfl | simp, HBF.out⟩
            · obtain ⟨hu0, hun⟩ := HMI.out.1 rfl
              have HALL : Hid (∀ j, j < k + 1 → (monU r J e f j).2 = 0) := Lib.hid (fun j hj => by
                by_cases h : j < k
                · exact hall.out j h
                · have : j = k := by omega
                  rw [this]
                  exact hu0)
              rw [hun] at HNS hfit
              have hfb : -1000000000000000 ≤ A - B ∧ A - B ≤ 1000000000000000 := by simpa [fitsB] using hfit
              have HSN : Hid (sumI (netsL r J e f (k + 1)) = sumI (netsL r J e f k) + A - B) := Lib.hid (by rw [HNS.out, sumI_app]; simp only [sumI]; omega)
              have GN : Hid (I64 (A - B)) := Lib.hid (i64_ofB (by omega) (by omega))
              obtain ⟨s, hs⟩ : ∃ s, sumI (netsL r J e f k) = s := ⟨_, rfl⟩
              rw [hs] at hsb HSN ⊢
              have wa : IntKind.i64.wrap (A - B) = A - B := wrap_is (by omega) (by omega)
              have wb : IntKind.i64.wrap (s + A) = s + A := wrap_is (by omega) (by omega)
              have wc : IntKind.i64.wrap (s + A - B) = s + A - B := wrap_is (by omega) (by omega)
              have wd : IntKind.i64.wrap (p + 1) = p + 1 := wrap_is (by omega) (by omega)
              have HOA := Lib.hid (HO8.out.alloc (.cells #[.int .i64 (A - B)] 3))
              have HBA := Lib.hid (HB8.out.alloc HB8.out.size (.cells #[.int .i64 (A - B)] 3))
              have HSL : Hid (Sl tInt (w8.alloc (.cells #[.int .i64 (A - B)] 3)) (fun kk => some kk ≠ vo.ownBlock ∧ kk < (w8.alloc (.cells #[.int .i64 (A - B)] 3)).heap.size) (some ⟨w8.heap.size, 0, none⟩) [A - B]) := Lib.hid (sl_oneI (blk_new w8 _) ⟨fun e => by have := (HO8.out.lt _ e.symm).2; omega, by simp⟩ GN.out)
              have h63 : (netsL r J e f k).length + [A - B].length ≤ maxLen := by simp only [List.length_cons, List.length_nil]; unfold maxLen; omega
              have hby : ((netsL r J e f k).length + [A - B].length) * 8 ≤ 140737488355328 := by simp only [List.length_cons, List.length_nil]; omega
              clear hbad HMI hu0 hun hfit hfb hs hsb hnb hnb2
              go_wp2_with (at_builtin; refine wp_app (T := tInt) rfl _ _ 32 rfl i0 (.int .i64 0) 8 Tryz.underlying32 hi hz0 hz1 hz2 rfl (by decide) int_one wy.heap.size vo (netsL r J e f k) rfl HOA.out ⟨w8.heap.size, 0, none⟩ 1 [A - B] rfl HSL.out h63 hby HBA.out.size ?_; intro v3 w9 hown hg hnil hat; have HO9 := Lib.hid hown; have HB9 := Lib.hid (Below.grown HBA.out hg HBA.out.size (fun k e => (HOA.out.lt k e).1)); clear hown hg hnil hat)
              go_roundw
              case rel => exact ⟨k + 1, _, rfl, by omega, by (first | (congr 1; omega) | (rw [← hp]; congr 1; omega)), by rw [HSN.out], HALL, by rw [HNS.out]; exact HO9.out, HB9.out⟩
              case measure => simp [intOf]; omega
          · have hb0 : (ber == 0) = false := by simpa using hbe
            have hmu := HMI.out.2 (by rw [hb0]; rfl)
            have hbe' : (ber != 0) = true := by simpa using hbe
            rcases HMQ.out with ⟨hal, _⟩ | ⟨_, her, rfl⟩
            · exact absurd (hal k hlt) hmu
            · have her' : (er != 0) = true := by simpa using her
              clear hbad HMI hmu her hbe
              have HBF := Lib.hid (HB6.out.trans (HB8.out.mono HB6.out.size))
              go_wp2_with fail
              go_ret
              exact ⟨by first | rfl | simp, HBF.out⟩
        · obtain rfl : k = N + 1 := by omega
          rcases HMQ.out with ⟨hal, rfl, rfl, hms⟩ | ⟨⟨j, hj, hjb⟩, _⟩
          · have hnle : ¬ f + ((N + 1 : Nat) : Int) ≤ f + (N : Int) := by omega
            obtain ⟨L, hL⟩ : ∃ L, netsL r J e f (N + 1) = L := ⟨_, rfl⟩
            have hown := HO.out
            have hms2 := HMK.out _ hms
            have hua := HUA.out hal
            rw [hL] at hown hms2 hua ⊢
            obtain ⟨va, vc, rfl, hv1, hv2, hvs⟩ := hown.slice
            have HSI := Lib.hid (sbInts_is L ma va mc vc wr (Sl.keep (fun k hk _ => HB.out.block k hk) hms2) hvs (Nat.le_trans hv1 hv2))
            have HRV := Lib.hid (fun W => ref_valid_is (f + (N : Int)) (b := true) (by unfold monthOk; simp; omega) W)
            have HUU := Lib.hid hua
            have HZR := Lib.hid (blk_below HZ6.out HB.out)
            have hzr := blk_cells HZR.out
            have hzlr := blk_lt HZR.out
            have hcst : ((N + 1 : Nat) : Int) = (N : Int) + 1 := by omega
            clear hms hms2 hvs hv1 hv2 hown hua HMK HMQ hL hal HUA HO
            go_wp2_with fail
            refine HSI.out.mono ?_
            rintro en w9 ⟨rfl, hb⟩
            have HB9 := Lib.hid (belows_then HBW.out HBW.out.size hb)
            have hzr9 := blk_cells (blk_below HZR.out hb)
            have hzl9 := blk_lt (blk_below HZR.out hb)
            clear hb hzr hzlr
            by_cases hue : uer = 0
            · have h3 := HUU.out hue
              subst hue
              subst h3
              go_wp2_with fail
              refine (HRV.out _).mono ?_
              rintro en w10 ⟨rfl, hb⟩
              go_wp2_with fail
              go_ret
              exact ⟨by first | rfl | simp, belows_then HB9.out HB9.out.size hb⟩
            · have hue' : (uer != 0) = true := by simpa using hue
              clear HUU hue
              go_wp2_with fail
              refine (HRV.out _).mono ?_
              rintro en w10 ⟨rfl, hb⟩
              go_wp2_with fail
              go_ret
              exact ⟨by first | rfl | simp, belows_then HB9.out HB9.out.size hb⟩
          · exact absurd (hall.out j (by omega)) hjb

theorem incomeMonths_row (a0 : Option Addr) (len0 cap0 : Nat) (x0 : List Ac) (a1 : Option Addr) (len1 cap1 : Nat) (x1 : List Jn) (e f n : Int) (w : World) (y0 : tAcs.R w (fun _ => True) [.slice a0 len0 cap0] x0) (y1 : tJns.R w (fun _ => True) [.slice a1 len1 cap1] x1) (he : I64 e) (hf : I64 f) (hn : I64 n) :
    Calls Tryz.prog 3 #[.slice a0 len0 cap0, .slice a1 len1 cap1, .int .i64 e, .int .i64 f, .int .i64 n] w fun en w' => en = .returned (.bool true) ∧ Below w.heap.size w w' := by
  obtain ⟨a, cap, hv, hs, h1, h2, _⟩ := y0
  obtain ⟨b, cap', hv', hs', h1', h2', _⟩ := y1
  simp only [List.cons.injEq, Value.slice.injEq, and_true] at hv hv'
  obtain ⟨rfl, rfl, rfl⟩ := hv
  obtain ⟨rfl, rfl, rfl⟩ := hv'
  exact incomeMonths_any x0 a0 cap0 x1 a1 cap1 e f n w hs (Nat.le_trans h1 h2) hs' (Nat.le_trans h1' h2')
end Go.Proofs.YtapmedcgfnlchaaGreat
