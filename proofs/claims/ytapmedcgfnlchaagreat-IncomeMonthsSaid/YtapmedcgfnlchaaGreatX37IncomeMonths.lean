/- income.Months: what each month came to. -/
import Derived.Test.YtapmedcgfnlchaaGreatX30IncomeMonths
import Derived.Test.YtapmedcgfnlchaaGreatX36IncomeMonths
set_option linter.unusedVariables false
set_option linter.unusedSimpArgs false
namespace Go.Proofs.YtapmedcgfnlchaaGreat
open Go.RowKit Go.Maps Go.Deep

def monU (r : List Ac) (J : List Jn) (e f : Int) (k : Nat) : (Int × Int × Int) × Int := incM r J e (f + (k : Int)) (f + (k : Int))
def netsL (r : List Ac) (J : List Jn) (e f : Int) (n : Nat) : List Int := (List.range n).map (fun k => (monU r J e f k).1.2.2)
theorem netsL_succ (r : List Ac) (J : List Jn) (e f : Int) (n : Nat) : netsL r J e f (n + 1) = netsL r J e f n ++ [(monU r J e f n).1.2.2] := by
  unfold netsL
  rw [List.range_succ, List.map_append]
  rfl
/-- all months, or an error -/
def MonP (w : World) (r : List Ac) (J : List Jn) (e f : Int) (N : Nat) (en : Ending) (w' : World) : Prop :=
  ((∀ k, k ≤ N → (monU r J e f k).2 = 0) ∧ (∃ v, en = .returned (.tuple #[v, .int .i64 0]) ∧ OwnL tInt w' w.heap.size v (netsL r J e f (N + 1))) ∨
    (∃ k, k ≤ N ∧ (monU r J e f k).2 ≠ 0) ∧ (∃ er : Int, er ≠ 0 ∧ en = .returned (.tuple #[.slice none 0 0, .int .i64 er]))) ∧ Below w.heap.size w w'
theorem incM_fit (r : List Ac) (J : List Jn) (e f t : Int) : fitsB (incM r J e f t).1.2.2 = true := by
  unfold incM
  split
  · rfl
  · unfold incR
    simp only
    split
    · rfl
    · split
      · rfl
      · split
        · rfl
        · exact addM_fit _
theorem i64_fitY {n : Int} (h : fitsB n = true) : I64 n := by
  have : -1000000000000000 ≤ n ∧ n ≤ 1000000000000000 := by simpa [fitsB] using h
  exact i64_ofB (by omega) (by omega)
theorem spanL_at (f : Int) {n m : Nat} (h : n < (spanL f m).length) : (spanL f m)[n] = f + (n : Int) := by
  have h2 : (spanL f m)[n]? = some (f + (n : Int)) := by
    have h3 : n < m := by
      unfold spanL at h
      rw [List.length_map, List.length_range] at h
      exact h
    unfold spanL
    rw [List.getElem?_map, List.getElem?_range h3]
    rfl
  rw [List.getElem?_eq_getElem h] at h2
  exact Option.some.inj h2

set_option maxHeartbeats 16000000 in
set_option maxRecDepth 100000 in
theorem iMonths_any {w : World} {c g : Nat} {mb : Option Nat} {r : List Ac} {a : Option Addr} {cap : Nat} {J : List Jn} {F : Nat → Prop} (hc : ChartAt w c mb r) (hbk : BookAt w g a cap J F) (hl : J.length ≤ 100) (hgood : GoodJ J) (e f : Int) (N : Nat) (h0 : 0 ≤ f) (h1 : f + (N : Int) ≤ 1199) :
    Calls Tryz.prog 10 #[.pointer (some ⟨c, 0, none⟩), .pointer (some ⟨g, 0, none⟩), tofv e f (f + (N : Int))] w (MonP w r J e f N) := by
  have HM : Hid (∀ W, SM w W → ∀ (k : Nat), k ≤ N → ∀ u, monU r J e f k = u → Calls Tryz.prog 11 #[.pointer (some ⟨c, 0, none⟩), .pointer (some ⟨g, 0, none⟩), tofv e (f + (k : Int)) (f + (k : Int))] W fun en w' => (∃ p1 n1 q1 p2 n2 q2, en = .returned (.tuple #[.agg #[.slice p1 n1 q1, .slice p2 n2 q2, .int .i64 u.1.1, .int .i64 u.1.2.1, .int .i64 u.1.2.2], .int .i64 u.2])) ∧ Below W.heap.size W w') := Lib.hid (fun W hb k hk u hu => by
    refine (iMake_any (hc.below hb) (hbk.below hb) hl hgood e (f + (k : Int)) (f + (k : Int)) (i64_ofB (by omega) (by omega)) (i64_ofB (by omega) (by omega)) hu).mono ?_
    rintro en w' hq
    obtain ⟨p1, n1, q1, p2, n2, q2, he, hb'⟩ := incQ_slices hq
    exact ⟨⟨p1, n1, q1, p2, n2, q2, he⟩, hb'⟩)
  obtain ⟨i0, hi, hz0, hz1, hz2⟩ := info_parts infoInt
  clear hc hbk hgood
  obtain ⟨t, ht⟩ : ∃ t, f + (N : Int) = t := ⟨_, rfl⟩
  rw [ht]
  have HBA := Lib.hid ((Below.refl w.heap.size w).alloc (Nat.le_refl _) (.cells #[.int .i64 e, .int .i64 f, .int .i64 t] 31))
  have HZA := Lib.hid (blk_new w (.cells #[.int .i64 e, .int .i64 f, .int .i64 t] 31))
  have hbb := HBA.out.alloc HBA.out.size (.cells #[.int .i64 t] 3)
  have HBB := Lib.hid hbb
  have HZB := Lib.hid (blk_alloc HZA.out (.cells #[.int .i64 t] 3))
  have HV : Hid (Calls Tryz.prog 27 #[.slice (some ⟨w.heap.size + 1, 0, none⟩) 1 1] ((w.alloc (.cells #[.int .i64 e, .int .i64 f, .int .i64 t] 31)).alloc (.cells #[.int .i64 t] 3)) fun en w' => en = .returned (.bool true) ∧ Below ((w.alloc (.cells #[.int .i64 e, .int .i64 f, .int .i64 t] 31)).alloc (.cells #[.int .i64 t] 3)).heap.size ((w.alloc (.cells #[.int .i64 e, .int .i64 f, .int .i64 t] 31)).alloc (.cells #[.int .i64 t] 3)) w') := Lib.hid (by
    have h := term_valid1 t (w.heap.size + 1) ((w.alloc (.cells #[.int .i64 e, .int .i64 f, .int .i64 t] 31)).alloc (.cells #[.int .i64 t] 3)) (by have := blk_new (w.alloc (.cells #[.int .i64 e, .int .i64 f, .int .i64 t] 31)) (.cells #[.int .i64 t] 3); simpa using this) (i64_ofB (by omega) (by omega))
    have hm : monthOk t = true := by unfold monthOk; simp; omega
    rw [hm] at h
    exact h)
  have hft : ¬ t < f := by omega
  clear hbb
  go_enter Tryz.func10, Tryz.ntmps10
  go_wp2_with fail
  refine HV.out.mono ?_
  rintro en w1 ⟨rfl, hb⟩
  have HB1 := Lib.hid (belows_then HBB.out HBB.out.size hb)
  have HZ1 := Lib.hid (blk_below HZB.out hb)
  have hcz := blk_cells HZ1.out
  have hlz := blk_lt HZ1.out
  have hf0 : f + ((0 : Nat) : Int) = f := by omega
  obtain ⟨u0, hu0⟩ : ∃ u, monU r J e f 0 = u := ⟨_, rfl⟩
  have HM0 := Lib.hid (HM.out w1 HB1.out 0 (Nat.zero_le _) u0 hu0)
  rw [hf0] at HM0
  have HU0 := Lib.hid hu0
  clear hb HV HBB HZB HBA HZA hu0 hf0
  go_wp2_with fail
  refine HM0.out.mono ?_
  rintro en w2 ⟨⟨p1, n1, q1, p2, n2, q2, rfl⟩, hb⟩
  have HB2 := Lib.hid (belows_then HB1.out HB1.out.size hb)
  have HB3 := Lib.hid (HB2.out.alloc HB2.out.size (.cells #[.slice p1 n1 q1, .slice p2 n2 q2, .int .i64 u0.1.1, .int .i64 u0.1.2.1, .int .i64 u0.1.2.2] 38))
  have HZ3 := Lib.hid (blk_alloc (blk_below HZ1.out hb) (.cells #[.slice p1 n1 q1, .slice p2 n2 q2, .int .i64 u0.1.1, .int .i64 u0.1.2.1, .int .i64 u0.1.2.2] 38))
  obtain ⟨⟨x0, y0, z0⟩, er0⟩ := u0
  simp only at HB3 HZ3 ⊢
  clear hb hcz hlz HB1 HZ1 HM0 HB2
  have hcz := blk_cells HZ3.out
  have hlz := blk_lt HZ3.out
  by_cases he0 : er0 = 0
  · subst he0
    go_wp2_with fail
    have HSP := Lib.hid (span_is f N h0 h1 (w2.alloc (.cells #[.slice p1 n1 q1, .slice p2 n2 q2, .int .i64 x0, .int .i64 y0, .int .i64 z0] 38)))
    rw [ht] at HSP
    refine HSP.out.mono ?_
    rintro en w4 ⟨v, rfl, ho, hb⟩
    have HB4 := Lib.hid (belows_then HB3.out HB3.out.size hb)
    have HZ4 := Lib.hid (blk_below HZ3.out hb)
    have hsl : (spanL f (N + 1)).length = N + 1 := by unfold spanL; rw [List.length_map, List.length_range]
    obtain ⟨sa, sc, rfl, _, _, hss⟩ := ho.slice
    rw [hsl]
    have HSS := Lib.hid hss
    clear ho hb hss HSP HB3 HZ3 hcz hlz
    go_wp2_with fail
    go_loopw [10, 49] (fun vo vi wr => ∃ (n : Nat) (vx : Value), vx = vo ∧ n ≤ N + 1 ∧ vi = .int .i64 n ∧ Hid (∀ k, k < n → (monU r J e f k).2 = 0) ∧ OwnL tInt wr w4.heap.size vx (netsL r J e f n) ∧ Below w4.heap.size w4 wr) (fun _ vi _ => N + 1 - (intOf vi).toNat)
    case atStart => exact ⟨0, _, rfl, Nat.zero_le _, rfl, Lib.hid (fun k hk => by omega), OwnL.nil _ _, Below.refl _ _⟩
    case round =>
      obtain ⟨n, vo, rfl, hn, rfl, hall, ho, hb⟩ := hrel
      have HO := Lib.hid ho
      have HB := Lib.hid hb
      have HBW := Lib.hid (HB4.out.trans (hb.mono HB4.out.size))
      have HZR := Lib.hid (blk_below HZ4.out hb)
      clear ho hb
      by_cases hlt : n < N + 1
      · have hlt' : (n : Int) < (N : Int) + 1 := by omega
        obtain ⟨ad, rfl, hadl, hc0⟩ := int_at (Sl.keep (fun k hk _ => HB.out.block k hk) HSS.out) n (by rw [hsl]; exact hlt)
        rw [spanL_at] at hc0
        obtain ⟨u, hu⟩ : ∃ u, monU r J e f n = u := ⟨_, rfl⟩
        have HMN := Lib.hid (HM.out wr HBW.out n (by omega) u hu)
        have HUN := Lib.hid hu
        have hft' : fitsB u.1.2.2 = true := by rw [← hu]; exact incM_fit _ _ _ _ _
        have GN := Lib.hid (i64_fitY hft')
        have HNS := Lib.hid (netsL_succ r J e f n)
        rw [hu] at HNS
        have hlen : (netsL r J e f n).length ≤ 1200 := by unfold netsL; rw [List.length_map, List.length_range]; omega
        have hcz := blk_cells HZR.out
        have hlz := blk_lt HZR.out
        obtain ⟨⟨x, y, z⟩, er⟩ := u
        simp only at HMN GN HNS
        clear hu hft'
        go_wp2_with fail
        refine HMN.out.mono ?_
        rintro en w5 ⟨⟨p3, n3, q3, p4, n4, q4, rfl⟩, hb⟩
        have HB5 := Lib.hid (belows_then HB.out HB.out.size hb)
        have HB6 := Lib.hid (HB5.out.alloc HB5.out.size (.cells #[.slice p3 n3 q3, .slice p4 n4 q4, .int .i64 x, .int .i64 y, .int .i64 z] 38))
        have HO6 := Lib.hid ((HO.out.below hb).alloc (.cells #[.slice p3 n3 q3, .slice p4 n4 q4, .int .i64 x, .int .i64 y, .int .i64 z] 38))
        clear hb hcz hlz HMN
        by_cases her : er = 0
        · subst her
          have HALL : Hid (∀ k, k < n + 1 → (monU r J e f k).2 = 0) := Lib.hid (fun k hk => by
            by_cases h : k < n
            · exact hall.out k h
            · have : k = n := by omega
              rw [this, HUN.out])
          have HOA := Lib.hid (HO6.out.alloc (.cells #[.int .i64 z] 3))
          have HBA := Lib.hid (HB6.out.alloc HB6.out.size (.cells #[.int .i64 z] 3))
          have HSL : Hid (Sl tInt ((w5.alloc (.cells #[.slice p3 n3 q3, .slice p4 n4 q4, .int .i64 x, .int .i64 y, .int .i64 z] 38)).alloc (.cells #[.int .i64 z] 3)) (fun kk => some kk ≠ vo.ownBlock ∧ kk < ((w5.alloc (.cells #[.slice p3 n3 q3, .slice p4 n4 q4, .int .i64 x, .int .i64 y, .int .i64 z] 38)).alloc (.cells #[.int .i64 z] 3)).heap.size) (some ⟨w5.heap.size + 1, 0, none⟩) [z]) := Lib.hid (sl_oneI (by have := blk_new (w5.alloc (.cells #[.slice p3 n3 q3, .slice p4 n4 q4, .int .i64 x, .int .i64 y, .int .i64 z] 38)) (.cells #[.int .i64 z] 3); simpa using this) ⟨fun e => by have := (HO6.out.lt _ e.symm).2; simp at this, by simp⟩ GN.out)
          have h63 : (netsL r J e f n).length + [z].length ≤ maxLen := by simp only [List.length_cons, List.length_nil]; unfold maxLen; omega
          have hby : ((netsL r J e f n).length + [z].length) * 8 ≤ 140737488355328 := by simp only [List.length_cons, List.length_nil]; omega
          go_wp2_with (at_builtin; refine wp_app (T := tInt) rfl _ _ 32 rfl i0 (.int .i64 0) 8 Tryz.underlying32 hi hz0 hz1 hz2 rfl (by decide) int_one w4.heap.size vo (netsL r J e f n) rfl HOA.out ⟨w5.heap.size + 1, 0, none⟩ 1 [z] rfl HSL.out h63 hby HBA.out.size ?_; intro v3 w7 hown hg hnil hat; have HO7 := Lib.hid hown; have HB7 := Lib.hid (Below.grown HBA.out hg HBA.out.size (fun k e => (HOA.out.lt k e).1)); clear hown hg hnil hat)
          go_roundw
          case rel => exact ⟨n + 1, _, rfl, by omega, by go_num, HALL, by rw [HNS.out]; exact HO7.out, HB7.out⟩
          case measure => simp [intOf]; omega
        · have her' : (er != 0) = true := by simpa using her
          go_wp2_with fail
          go_ret2
          exact ⟨.inr ⟨⟨n, by omega, by rw [HUN.out]; exact her⟩, er, her, rfl⟩, HB4.out.trans (HB6.out.mono HB4.out.size)⟩
      · obtain rfl : n = N + 1 := by omega
        go_wp2_with fail
        go_ret2
        exact ⟨.inl ⟨fun k hk => hall.out k (by omega), _, rfl, HO.out.mono HB4.out.size⟩, HBW.out⟩
  · have he0' : (er0 != 0) = true := by simpa using he0
    go_wp2_with fail
    go_ret2
    exact ⟨.inr ⟨⟨0, Nat.zero_le _, by rw [HU0.out]; exact he0⟩, er0, he0, rfl⟩, HB3.out⟩
end Go.Proofs.YtapmedcgfnlchaaGreat
