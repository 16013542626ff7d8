/- money: size, signed, Scale. -/
import Derived.Test.YtgggpaacagbmcaaGreatX11GroupInner
import Derived.Test.YtgggpaacagbmcaaGreatX15GroupInner
import Derived.Test.YtgggpaacagbmcaaGreatX08GroupInner
import Derived.Test.YtgggpaacagbmcaaGreatX13GroupInner
import Derived.Deep.RegionLaw
set_option linter.unusedVariables false
set_option linter.unusedSimpArgs false
namespace Go.Proofs.YtgggpaacagbmcaaGreat
open Go.RowKit Go.Maps Go.Deep

theorem size_any (a : Int) (h1 : -1000000000000000 ≤ a) (h2 : a ≤ 1000000000000000) (w : World) : Calls Tryz.prog 138 #[.int .i64 a] w fun e w' => e = .returned (.int .u64 (a.natAbs : Int)) ∧ w' = w := by
  have hc : a < 0 ∨ ¬ a < 0 := by omega
  rcases hc with h | h
  · have h3 : IntKind.u64.wrap (-a) = (a.natAbs : Int) := by rw [IntKind.wrap_u64]; omega
    have h4 : wrap64 (-a) = -a := by unfold wrap64; omega
    have HE := Lib.hid h3
    have HF := Lib.hid h4
    clear h3 h4
    go_enter Tryz.func138, Tryz.ntmps138
    go_wp2_with fail
    go_ret
    exact ⟨congrArg (fun x => Ending.returned (Value.int .u64 x)) (show -a = (a.natAbs : Int) by omega), rfl⟩
  · have h3 : IntKind.u64.wrap a = (a.natAbs : Int) := by rw [IntKind.wrap_u64]; omega
    have HE := Lib.hid h3
    clear h3
    go_enter Tryz.func138, Tryz.ntmps138
    go_wp2_with fail
    go_ret
    exact ⟨congrArg (fun x => Ending.returned (Value.int .u64 x)) (show a = (a.natAbs : Int) by omega), rfl⟩
theorem signed_any (n : Nat) (a : Int) (h1 : n ≤ 1000000000000000) (w : World) : Calls Tryz.prog 140 #[.int .u64 n, .int .i64 a] w fun e w' => e = .returned (.int .i64 (signN a n)) ∧ w' = w := by
  have h3 : wrap64 (n : Int) = n := by unfold wrap64; omega
  have h4 : wrap64 (-(n : Int)) = -(n : Int) := by unfold wrap64; omega
  have HE := Lib.hid h3
  have HF := Lib.hid h4
  clear h3 h4
  unfold signN
  by_cases h : a < 0
  · rw [if_pos h]
    go_enter Tryz.func140, Tryz.ntmps140
    go_wp2_with fail
    go_ret
    exact ⟨rfl, rfl⟩
  · rw [if_neg h]
    go_enter Tryz.func140, Tryz.ntmps140
    go_wp2_with fail
    go_ret
    exact ⟨rfl, rfl⟩

/-- Div64 as Scale asks for it -/
def DivOk (m den : Nat) : Prop := ∀ w : World, Calls Tryz.prog 139 #[.int .u64 ((m / 18446744073709551616 : Nat) : Int), .int .u64 ((m % 18446744073709551616 : Nat) : Int), .int .u64 (den : Int)] w fun e w' => e = .returned (.tuple #[.int .u64 ((m / den : Nat) : Int), .int .u64 ((m % den : Nat) : Int)]) ∧ Below w.heap.size w w'
theorem divOk_mil (m : Nat) (h : m < 1000000 * 18446744073709551616) : DivOk m 1000000 := fun w => by
  have := div64_mil (m / 18446744073709551616) (m % 18446744073709551616) (by omega) (by omega) w
  rwa [Nat.div_add_mod'] at this
theorem divOk_low (m den : Nat) (h : m < 18446744073709551616) (h0 : 0 < den) (h1 : den < 18446744073709551616) : DivOk m den := fun w => by
  rw [Nat.div_eq_of_lt h, Nat.mod_eq_of_lt h]
  exact div64_low m den h0 h h1 w
set_option maxHeartbeats 4000000 in
set_option maxRecDepth 100000 in
theorem scale_walk {a num den : Int} (ha : fitsB a = true) (hn : 0 ≤ num) (hn1 : num ≤ 1000000000) (hd : 1 ≤ den) (hd1 : den ≤ 1000000000) (hk : DivOk (a.natAbs * num.toNat) den.toNat) (hlow : a.natAbs * num.toNat / 18446744073709551616 < den.toNat) (w : World) :
    Calls Tryz.prog 95 #[.int .i64 a, .int .i64 num, .int .i64 den] w fun e w' => e = .returned (.tuple #[.int .i64 (scaleT a num den).1, .int .i64 (scaleT a num den).2]) ∧ Below w.heap.size w w' := by
  have hab : -1000000000000000 ≤ a ∧ a ≤ 1000000000000000 := by simpa [fitsB] using ha
  obtain ⟨N, hN⟩ : ∃ N : Nat, N = num.toNat := ⟨_, rfl⟩
  obtain ⟨D, hD⟩ : ∃ D : Nat, D = den.toNat := ⟨_, rfl⟩
  obtain rfl : num = (N : Int) := by omega
  obtain rfl : den = (D : Int) := by omega
  rw [Int.toNat_natCast, Int.toNat_natCast] at hk hlow
  obtain ⟨m, hm⟩ : ∃ m, m = a.natAbs * N := ⟨_, rfl⟩
  rw [← hm] at hk hlow
  have hge : ¬ (D : Int) ≤ ((m / 18446744073709551616 : Nat) : Int) := by omega
  obtain ⟨n, hnq⟩ : ∃ n, n = m / D := ⟨_, rfl⟩
  obtain ⟨t, htq⟩ : ∃ t, t = m % D := ⟨_, rfl⟩
  have htD : t < D := by rw [htq]; exact Nat.mod_lt _ (by omega)
  have hnb : n < 18446744073709551616 := by
    rw [hnq]
    exact Nat.div_lt_of_lt_mul (by omega)
  unfold DivOk at hk
  rw [← hnq, ← htq] at hk
  obtain ⟨hi, hhi⟩ : ∃ x, x = m / 18446744073709551616 := ⟨_, rfl⟩
  obtain ⟨lo, hlo⟩ : ∃ x, x = m % 18446744073709551616 := ⟨_, rfl⟩
  rw [← hhi] at hge hlow
  rw [← hhi, ← hlo] at hk
  have HK := Lib.hid hk
  have HM := Lib.hid (fun w => by have := mul64_is a.natAbs N (by omega) (by omega) w; rw [← hm, ← hhi, ← hlo] at this; exact this)
  have HF := Lib.hid (mfits_lo a w.heap.size)
  have HSZ := Lib.hid (size_any a hab.1 hab.2)
  have HA := Lib.hid ha
  have HAW : Hid (I64 a) := Lib.hid (by unfold I64 Lit.wf; simp [IntKind.min, IntKind.max, IntKind.bits, IntKind.signed]; omega)
  have HZ := Lib.hid (blk_new w (.cells #[.int .i64 a] 3))
  have HB := Lib.hid ((Below.refl w.heap.size w).alloc (Nat.le_refl _) (.cells #[.int .i64 a] 3))
  have HHM := Lib.hid hm
  have HT : Hid (scaleT a N D = if 1000000000000000 < rndN n t D then (0, 2) else (signN a (rndN n t D), 0)) := Lib.hid (by
    unfold scaleT scaleN
    rw [Int.toNat_natCast, Int.toNat_natCast, ← hm, ← hnq, ← htq])
  obtain ⟨k, hkk⟩ : ∃ k : Nat, min (n : Int) 2000000000000000 = (k : Int) := ⟨min n 2000000000000000, by omega⟩
  have HKK := Lib.hid hkk
  have HKN : Hid ((n ≤ 2000000000000000 ∧ k = n) ∨ (2000000000000000 < n ∧ k = 2000000000000000)) := Lib.hid (by omega)
  have HNB := Lib.hid hnb
  have HNQ := Lib.hid hnq
  have HTQ := Lib.hid htq
  clear hk hm ha hnb hhi hlo hnq htq hN hD hlow hkk
  have HW : Hid (IntKind.u64.wrap (N : Int) = N) := Lib.hid (by rw [IntKind.wrap_u64]; omega)
  have HW2 : Hid (IntKind.u64.wrap (D : Int) = D) := Lib.hid (by rw [IntKind.wrap_u64]; omega)
  go_enter Tryz.func95, Tryz.ntmps95
  go_wp2_with fail
  refine (HF.out _ HZ.out HAW.out HA.out).mono ?_
  rintro en w1 ⟨rfl, hb⟩
  have HB1 := Lib.hid (belows_then HB.out HB.out.size hb)
  clear hb HB HZ HF
  go_wp2_with fail
  refine (HSZ.out _).mono ?_
  rintro en w2 ⟨rfl, rfl⟩
  go_wp2_with fail
  refine (HM.out _).mono ?_
  rintro en w2 ⟨rfl, rfl⟩
  go_wp2_with fail
  refine (HK.out _).mono ?_
  rintro en w3 ⟨rfl, hb⟩
  have HB3 := Lib.hid (belows_then HB1.out HB1.out.size hb)
  clear hb HB1
  have hkk := HKK.out
  have hkb : (k : Int) ≤ 2000000000000000 := by have := HKN.out; omega
  by_cases h1 : (D : Int) < 2 * (t : Int)
  · skip
    have HR : Hid (n ≤ 2000000000000000 → rndN n t D = n + 1) := Lib.hid (fun hn2 => by have := HKN.out; unfold rndN; rw [if_pos (by omega)])
    have HR2 : Hid (n ≤ rndN n t D) := Lib.hid (by unfold rndN; split <;> omega)
    by_cases h4 : (1000000000000000 : Int) < ((k : Int) + 1)
    · go_wp2_with fail
      go_ret2
      have hR : 1000000000000000 < rndN n t D := by
        have h5 := HKN.out; have h6 := HR.out; have h7 := HR2.out
        rcases h5 with ⟨h5, h8⟩ | ⟨h5, h8⟩
        · rw [h6 h5]; omega
        · omega
      rw [HT.out, if_pos hR]
      exact ⟨rfl, HB3.out⟩
    · obtain ⟨k1, hk1⟩ : ∃ k1 : Nat, (k : Int) + 1 = (k1 : Int) := ⟨k + 1, by omega⟩
      have h5 : ¬ (1000000000000000 : Int) < (k1 : Int) := by omega
      have HSG := Lib.hid (fun w => signed_any k1 a (by omega) w)
      have hR : rndN n t D = k1 := by
        have h5 := HKN.out; have h6 := HR.out
        rcases h5 with ⟨h5, h8⟩ | ⟨h5, h8⟩
        · rw [h6 h5]; omega
        · omega
      have HRR := Lib.hid hR
      have HH4 : Hid (¬ 1000000000000000 < k1) := Lib.hid (by omega)
      clear hR h4
      go_wp2_with fail
      refine (HSG.out _).mono ?_
      rintro en w4 ⟨rfl, rfl⟩
      go_wp2_with fail
      go_ret2
      rw [HT.out, HRR.out, if_neg HH4.out]
      exact ⟨rfl, HB3.out⟩
  · by_cases h2 : 2 * (t : Int) = (D : Int)
    · by_cases h3 : (k : Int).tmod 2 = 1
      · have h3' : k % 2 = 1 := by
          have h7 := h3
          rw [Int.tmod_eq_emod_of_nonneg (by omega)] at h7
          omega
        have HR : Hid (n ≤ 2000000000000000 → rndN n t D = n + 1) := Lib.hid (fun hn2 => by have := HKN.out; unfold rndN; rw [if_pos (by omega)])
        have HR2 : Hid (n ≤ rndN n t D) := Lib.hid (by unfold rndN; split <;> omega)
        by_cases h4 : (1000000000000000 : Int) < ((k : Int) + 1)
        · go_wp2_with fail
          go_ret2
          have hR : 1000000000000000 < rndN n t D := by
            have h5 := HKN.out; have h6 := HR.out; have h7 := HR2.out
            rcases h5 with ⟨h5, h8⟩ | ⟨h5, h8⟩
            · rw [h6 h5]; omega
            · omega
          rw [HT.out, if_pos hR]
          exact ⟨rfl, HB3.out⟩
        · obtain ⟨k1, hk1⟩ : ∃ k1 : Nat, (k : Int) + 1 = (k1 : Int) := ⟨k + 1, by omega⟩
          have h5 : ¬ (1000000000000000 : Int) < (k1 : Int) := by omega
          have HSG := Lib.hid (fun w => signed_any k1 a (by omega) w)
          have hR : rndN n t D = k1 := by
            have h5 := HKN.out; have h6 := HR.out
            rcases h5 with ⟨h5, h8⟩ | ⟨h5, h8⟩
            · rw [h6 h5]; omega
            · omega
          have HRR := Lib.hid hR
          have HH4 : Hid (¬ 1000000000000000 < k1) := Lib.hid (by omega)
          clear hR h4
          go_wp2_with fail
          refine (HSG.out _).mono ?_
          rintro en w4 ⟨rfl, rfl⟩
          go_wp2_with fail
          go_ret2
          rw [HT.out, HRR.out, if_neg HH4.out]
          exact ⟨rfl, HB3.out⟩
      · have h3' : k % 2 = 0 := by
          have h7 := h3
          rw [Int.tmod_eq_emod_of_nonneg (by omega)] at h7
          omega
        have HR : Hid (n ≤ 2000000000000000 → rndN n t D = n) := Lib.hid (fun hn2 => by have := HKN.out; unfold rndN; rw [if_neg (by omega)])
        have HR2 : Hid (n ≤ rndN n t D) := Lib.hid (by unfold rndN; split <;> omega)
        by_cases h4 : (1000000000000000 : Int) < (k : Int)
        · go_wp2_with fail
          go_ret2
          have hR : 1000000000000000 < rndN n t D := by
            have h5 := HKN.out; have h6 := HR.out; have h7 := HR2.out
            rcases h5 with ⟨h5, h8⟩ | ⟨h5, h8⟩
            · rw [h6 h5]; omega
            · omega
          rw [HT.out, if_pos hR]
          exact ⟨rfl, HB3.out⟩
        · have HSG := Lib.hid (fun w => signed_any k a (by omega) w)
          have hR : rndN n t D = k := by
            have h5 := HKN.out; have h6 := HR.out
            rcases h5 with ⟨h5, h8⟩ | ⟨h5, h8⟩
            · rw [h6 h5]; omega
            · omega
          have HRR := Lib.hid hR
          have HH4 : Hid (¬ 1000000000000000 < k) := Lib.hid (by omega)
          clear hR
          go_wp2_with fail
          refine (HSG.out _).mono ?_
          rintro en w4 ⟨rfl, rfl⟩
          go_wp2_with fail
          go_ret2
          rw [HT.out, HRR.out, if_neg HH4.out]
          exact ⟨rfl, HB3.out⟩
    · skip
      have HR : Hid (n ≤ 2000000000000000 → rndN n t D = n) := Lib.hid (fun hn2 => by have := HKN.out; unfold rndN; rw [if_neg (by omega)])
      have HR2 : Hid (n ≤ rndN n t D) := Lib.hid (by unfold rndN; split <;> omega)
      by_cases h4 : (1000000000000000 : Int) < (k : Int)
      · go_wp2_with fail
        go_ret2
        have hR : 1000000000000000 < rndN n t D := by
          have h5 := HKN.out; have h6 := HR.out; have h7 := HR2.out
          rcases h5 with ⟨h5, h8⟩ | ⟨h5, h8⟩
          · rw [h6 h5]; omega
          · omega
        rw [HT.out, if_pos hR]
        exact ⟨rfl, HB3.out⟩
      · have HSG := Lib.hid (fun w => signed_any k a (by omega) w)
        have hR : rndN n t D = k := by
          have h5 := HKN.out; have h6 := HR.out
          rcases h5 with ⟨h5, h8⟩ | ⟨h5, h8⟩
          · rw [h6 h5]; omega
          · omega
        have HRR := Lib.hid hR
        have HH4 : Hid (¬ 1000000000000000 < k) := Lib.hid (by omega)
        clear hR
        go_wp2_with fail
        refine (HSG.out _).mono ?_
        rintro en w4 ⟨rfl, rfl⟩
        go_wp2_with fail
        go_ret2
        rw [HT.out, HRR.out, if_neg HH4.out]
        exact ⟨rfl, HB3.out⟩
theorem scale_mil {a num : Int} (ha : fitsB a = true) (hn : 0 ≤ num) (hn1 : num ≤ 1000000000) (w : World) :
    Calls Tryz.prog 95 #[.int .i64 a, .int .i64 num, .int .i64 1000000] w fun e w' => e = .returned (.tuple #[.int .i64 (scaleT a num 1000000).1, .int .i64 (scaleT a num 1000000).2]) ∧ Below w.heap.size w w' := by
  have hab : -1000000000000000 ≤ a ∧ a ≤ 1000000000000000 := by simpa [fitsB] using ha
  have hm : a.natAbs * num.toNat ≤ 1000000000000000 * 1000000000 := Nat.mul_le_mul (by omega) (by omega)
  exact scale_walk ha hn hn1 (by decide) (by decide) (divOk_mil _ (by omega)) (by show _ < 1000000; omega) w
theorem scale_tenK {a num : Int} (ha : fitsB a = true) (hn : 0 ≤ num) (hn1 : num ≤ 10000) (w : World) :
    Calls Tryz.prog 95 #[.int .i64 a, .int .i64 num, .int .i64 10000] w fun e w' => e = .returned (.tuple #[.int .i64 (scaleT a num 10000).1, .int .i64 (scaleT a num 10000).2]) ∧ Below w.heap.size w w' := by
  have hab : -1000000000000000 ≤ a ∧ a ≤ 1000000000000000 := by simpa [fitsB] using ha
  have hm : a.natAbs * num.toNat ≤ 1000000000000000 * 10000 := Nat.mul_le_mul (by omega) (by omega)
  exact scale_walk ha hn (by omega) (by decide) (by decide) (divOk_low _ 10000 (by omega) (by decide) (by decide)) (by show _ < 10000; omega) w
end Go.Proofs.YtgggpaacagbmcaaGreat


/- Steps of regions that draw their order: an append to a list of the call's own, a store into a map. -/
set_option linter.unusedVariables false
set_option linter.unusedSimpArgs false
namespace Go.Proofs.YtgggpaacagbmcaaGreat
open Go.RowKit Go.Maps

section
variable {P : Program} {e : TypeId} {α : Type} {T : Ty P e α} {ops : Array Oper} {o : Oper} {a : Act} {w : World} {K : Act → World → Prop} {Q : Exit → Act → World → Prop} {E : Prop}
theorem step_app (hgd : o.guard = none) (s x : Operand) (t : TypeId) (ho : o.op = .call { callee := .builtin .append, args := #[s, x], argTypes := #[t, t] })
    (i : TypeInfo) (z : Value) (bytes : Nat) (ht : P.underlying t = some (.slice e)) (hi : P.info? e = some i) (hz : i.zero = some z) (hsize : i.size = T.n) (hby : i.bytes = bytes) (hzs : z.cells.size = T.n) (hsz : 0 < T.n)
    (h1c : ∀ (w : World) (F : Nat → Prop) (c : List Value) (x : α), T.R w F c x → ∀ u ∈ c, u.oneCell' = true)
    (base : Nat) (v : Value) (xs : List α) (hs : a.eval s = v) (hown : OwnL T w base v xs) (ad : Addr) (c : Nat) (ys : List α) (hx : a.eval x = .slice (some ad) ys.length c)
    (hys : Sl T w (fun k => some k ≠ v.ownBlock ∧ k < w.heap.size) (some ad) ys) (h63 : xs.length + ys.length ≤ maxLen) (hbytes : (xs.length + ys.length) * bytes ≤ 140737488355328) (hbase : base ≤ w.heap.size)
    (h : ∀ v' w', OwnL T w' base v' (xs ++ ys) → w.grownBy w' v.ownBlock → (v'.ownBlock = v.ownBlock ∨ v'.ownBlock = some w.heap.size) → K (a.put o.dst v') w') :
    if Region.wanted o (yielded ops a.tmps) = true then Oper.wp P o a w K Q else E := by
  have hw : Region.wanted o (yielded ops a.tmps) = true := by simp [Region.wanted, hgd]
  rw [if_pos hw]
  obtain ⟨css, h1, h2, h3, h4⟩ := hown
  obtain ⟨news, n2, n4, n3, n5⟩ := hys.rows
  obtain ⟨v', w', hrun, r1, r2, r3, r4⟩ := run_append_own_at (P := P) w base t o.type e i z T.n bytes ht hi hz hsize hby hzs hsz v xs.length css.flatten h1 ad ys.length c news.flatten (by rw [flat_len n3, n2]) n5 (by
    intro u hu
    obtain ⟨c', hc', hu'⟩ := List.mem_flatten.1 hu
    obtain ⟨k, hk, rfl⟩ := List.mem_iff_getElem.1 hc'
    exact h1c w _ _ _ (n4 k _ _ (List.getElem?_eq_getElem hk) (List.getElem?_eq_getElem (by omega))) u hu') h63 hbytes hbase
  unfold Oper.wp
  simp [execOp, ho, resolve, invoke, builtin, hs, hx, hrun, Result.andThen]
  exact h v' w' (OwnL.app h2 h3 h4 n2 n3 n4 r1 r2 r4) r2 r4
end
section
variable {P : Program} {t : TypeId} {κ ν : Type} [DecidableEq κ] {M : MK P t κ} {ev : ν → Value} {ops : Array Oper} {o : Oper} {a : Act} {w : World} {K : Act → World → Prop} {Q : Exit → Act → World → Prop} {E : Prop}
theorem step_update (hg : o.guard = none) (m x v : Operand) (T : TypeId) (hop : o.op = Op.mapUpdate T m x v) (e : TypeId) (ht : P.underlying T = some (.map t e)) (b : Nat) (l : List (κ × ν)) (k : κ) (y : ν)
    (hm : a.eval m = .map (some b)) (hx : a.eval x = M.ek k) (hv : a.eval v = ev y) (h : MapIs M ev w b l) (hk : M.ok k)
    (hK : ∀ w', MapIs M ev w' b (ins l k y) → OnlyB w w' b → K (a.put o.dst undef) w') : if Region.wanted o (yielded ops a.tmps) = true then Oper.wp P o a w K Q else E := by
  have hw : Region.wanted o (yielded ops a.tmps) = true := by simp [Region.wanted, hg]
  rw [if_pos hw]
  obtain ⟨w', hrun, r1, r2⟩ := h.update ht hk y
  unfold Oper.wp
  simp [execOp, hop, hm, hx, hv, hrun, Result.andThen]
  exact hK w' r1 r2
end

theorem look_ins {κ ν : Type} [DecidableEq κ] (l : List (κ × ν)) (k : κ) (v : ν) (j : κ) : look (ins l k v) j = if j = k then some v else look l j := by
  induction l with
  | nil =>
    by_cases h : j = k
    · subst h; simp [ins, look]
    · have : ¬ k = j := fun e => h e.symm
      simp [ins, look, h, this]
  | cons x r ih =>
    unfold ins
    by_cases hx : x.1 = k
    · rw [if_pos hx]
      by_cases h : j = k
      · subst h; simp [look]
      · have h1 : ¬ k = j := fun e => h e.symm
        have h2 : ¬ x.1 = j := fun e => h (e.symm.trans hx)
        simp [look, h, h1, h2]
    · rw [if_neg hx]
      by_cases hj : x.1 = j
      · have : ¬ j = k := fun e => hx (hj.trans e)
        simp [look, hj, this]
      · have e1 : look (x :: ins r k v) j = look (ins r k v) j := by simp [look, hj]
        have e2 : look (x :: r) j = look r j := by simp [look, hj]
        rw [e1, e2, ih]
end Go.Proofs.YtgggpaacagbmcaaGreat
