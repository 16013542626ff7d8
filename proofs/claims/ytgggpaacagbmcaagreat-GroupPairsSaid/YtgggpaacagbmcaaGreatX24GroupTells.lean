/- math/bits: Mul64; Div64 where the first half is none, and by a million. -/
import Derived.Test.YtgggpaacagbmcaaGreatX03GroupTells
import Derived.WalkKit
import Derived.Below
import Derived.Lib.Mul64
import Derived.Laws.Bits64b
import Derived.Deep.QuietTactic
import Derived.LoopN
import Derived.Lib.Hide
import Derived.Test.YtgggpaacagbmcaaGreatX13GroupTells
set_option linter.unusedVariables false
set_option linter.unusedSimpArgs false
namespace Go.Proofs.YtgggpaacagbmcaaGreat
open Go.RowKit

namespace M64
theorem maskN (a : Nat) (ha : a < 18446744073709551616) : bits .and .u64 (a : Int) 4294967295 = ((a % 4294967296 : Nat) : Int) := by
  have h := bits_and_u64_nat a 4294967295 ha (by omega)
  have e : a &&& 4294967295 = a % 4294967296 := Nat.and_two_pow_sub_one_eq_mod a 32
  rw [e] at h
  exact h
theorem divN (a : Nat) : (a : Int) / 4294967296 = ((a / 4294967296 : Nat) : Int) := by omega
theorem mulN (a b : Nat) : (a : Int) * (b : Int) = ((a * b : Nat) : Int) := (Int.natCast_mul a b).symm
theorem addN (a b : Nat) : (a : Int) + (b : Int) = ((a + b : Nat) : Int) := (Int.natCast_add a b).symm
theorem wrapN (a : Nat) (ha : a < 18446744073709551616) : IntKind.u64.wrap (a : Int) = (a : Int) := by rw [IntKind.wrap_u64]; omega
theorem wrapM (a : Nat) : IntKind.u64.wrap (a : Int) = ((a % 18446744073709551616 : Nat) : Int) := by rw [IntKind.wrap_u64]; omega
end M64

set_option maxHeartbeats 1000000 in
theorem mul64_is (x y : Nat) (hx : x < 18446744073709551616) (hy : y < 18446744073709551616) (w : World) :
    Calls Tryz.prog 137 #[.int .u64 x, .int .u64 y] w fun e w' => e = .returned (.tuple #[.int .u64 ((x * y / 18446744073709551616 : Nat) : Int), .int .u64 ((x * y % 18446744073709551616 : Nat) : Int)]) ∧ w' = w := by
  obtain ⟨bd, bt, bw, hhi⟩ := Lib.mul64_hi x y hx hy
  have ba := Lib.half_mul_le (a := x / 4294967296) (b := y / 4294967296) (by omega) (by omega)
  have bb := Lib.half_mul_le (a := x / 4294967296) (b := y % 4294967296) (by omega) (by omega)
  have bc := Lib.half_mul_le (a := x % 4294967296) (b := y / 4294967296) (by omega) (by omega)
  have ba' : x / 4294967296 * (y / 4294967296) < 18446744073709551616 := by omega
  have bb' : x / 4294967296 * (y % 4294967296) < 18446744073709551616 := by omega
  have bc' : x % 4294967296 * (y / 4294967296) < 18446744073709551616 := by omega
  have bh1 : x / 4294967296 * (y / 4294967296) + (x / 4294967296 * (y % 4294967296) + x % 4294967296 * (y % 4294967296) / 4294967296) / 4294967296 < 18446744073709551616 := by omega
  have bh : x / 4294967296 * (y / 4294967296) + (x / 4294967296 * (y % 4294967296) + x % 4294967296 * (y % 4294967296) / 4294967296) / 4294967296 + ((x / 4294967296 * (y % 4294967296) + x % 4294967296 * (y % 4294967296) / 4294967296) % 4294967296 + x % 4294967296 * (y / 4294967296)) / 4294967296 < 18446744073709551616 := by omega
  go_enter Tryz.func137, Tryz.ntmps137
  go_wp2
  simp only [M64.maskN x hx, M64.maskN y hy, M64.divN, M64.mulN, M64.addN, M64.wrapN _ bd, M64.wrapN _ bb', M64.wrapN _ bt, M64.maskN _ bt, M64.wrapN _ bc', M64.wrapN _ bw, M64.wrapN _ ba', M64.wrapN _ bh1, M64.wrapN _ bh, M64.wrapM (x * y)]
  rw [hhi]
  go_ret2
  exact ⟨rfl, rfl⟩
set_option maxRecDepth 100000 in
theorem len64_mil (w : World) : Calls Tryz.prog 175 #[.int .u64 1000000] w fun e w' => e = .returned (.int .i64 20) ∧ w' = w := by
  go_enter Tryz.func175, Tryz.ntmps175
  go_wp2
  go_ret
  exact ⟨by kernel_rfl, rfl⟩
set_option maxRecDepth 100000 in
theorem lz64_mil (w : World) : Calls Tryz.prog 163 #[.int .u64 1000000] w fun e w' => e = .returned (.int .i64 44) ∧ w' = w := by
  go_enter Tryz.func163, Tryz.ntmps163
  go_wp2
  go_ret
  exact ⟨by kernel_rfl, rfl⟩
set_option maxHeartbeats 1000000 in
theorem div64_low (lo y : Nat) (h0 : 0 < y) (h1 : lo < 18446744073709551616) (h2 : y < 18446744073709551616) (w : World) :
    Calls Tryz.prog 139 #[.int .u64 0, .int .u64 lo, .int .u64 y] w fun e w' => e = .returned (.tuple #[.int .u64 ((lo / y : Nat) : Int), .int .u64 ((lo % y : Nat) : Int)]) ∧ Below w.heap.size w w' := by
  have e1 : ¬ (y : Int) = 0 := by omega
  have e2 : ¬ (y : Int) ≤ 0 := by omega
  go_enter Tryz.func139, Tryz.ntmps139
  go_wp2_with fail
  go_quiet (fail)
  go_wp2_with fail
  go_ret2
  have h3 : IntKind.u64.wrap ((lo : Int) / (y : Int)) = ((lo / y : Nat) : Int) := by
    have := Nat.div_le_self lo y
    rw [show ((lo : Int) / (y : Int)) = ((lo / y : Nat) : Int) from (Int.natCast_ediv lo y).symm]
    exact M64.wrapN _ (by omega)
  have h4 : (lo : Int).tmod (y : Int) = ((lo % y : Nat) : Int) := by rw [Int.tmod_eq_emod_of_nonneg (by omega), Int.natCast_emod]
  refine ⟨?_, below_drewN (Below.refl _ _) _⟩
  show Ending.returned (.tuple #[.int .u64 (IntKind.u64.wrap ((lo : Int) / (y : Int))), .int .u64 ((lo : Int).tmod (y : Int))]) = _
  rw [h3, h4]
theorem wrapS (a : Int) (h : 0 ≤ a) (h2 : a < 18446744073709551616) : IntKind.u64.wrap a = a := by rw [IntKind.wrap_u64]; omega
theorem wrapAdd (a b : Int) : IntKind.u64.wrap (IntKind.u64.wrap a + b) = IntKind.u64.wrap (a + b) := by simp only [IntKind.wrap_u64]; rw [Int.emod_add_emod]
theorem wrapSub (a b : Int) : IntKind.u64.wrap (IntKind.u64.wrap a - IntKind.u64.wrap b) = IntKind.u64.wrap (a - b) := by simp only [IntKind.wrap_u64]; rw [← Int.sub_emod]
theorem wrapWrap (a : Int) : IntKind.u64.wrap (IntKind.u64.wrap a) = IntKind.u64.wrap a := by simp only [IntKind.wrap_u64]; rw [Int.emod_emod]
theorem wrapSub1 (a b : Int) : IntKind.u64.wrap (a - IntKind.u64.wrap b) = IntKind.u64.wrap (a - b) := by simp only [IntKind.wrap_u64]; rw [Int.sub_emod, Int.emod_emod, ← Int.sub_emod]
theorem dv_or (hi lo u : Nat) (h1 : hi < 1000000) (h2 : lo < 18446744073709551616) (hu : u = hi * 17592186044416 + lo / 1048576) : bits .or .u64 ((hi : Int) * 17592186044416) ((lo : Int) / 1048576) = (u : Int) := by
  have h := bits_or_u64_nat (hi * 17592186044416) (lo / 1048576) (by omega) (by omega)
  have e := Nat.two_pow_add_eq_or_of_lt (i := 44) (b := lo / 1048576) (by omega) hi
  have e0 : (2 : Nat) ^ 44 = 17592186044416 := by decide
  rw [e0, Nat.mul_comm] at e
  rw [← e, ← hu] at h
  rw [show (hi : Int) * 17592186044416 = ((hi * 17592186044416 : Nat) : Int) by omega, show (lo : Int) / 1048576 = ((lo / 1048576 : Nat) : Int) by omega, h]
theorem dv_l (lo : Nat) : IntKind.u64.wrap ((lo : Int) * 17592186044416) = ((lo % 1048576 * 17592186044416 : Nat) : Int) := by rw [IntKind.wrap_u64]; omega
theorem dv_l1 (lo b : Nat) (hb : b = lo % 1048576 * 4096) : ((lo % 1048576 * 17592186044416 : Nat) : Int) / 4294967296 = (b : Int) := by omega
theorem dv_l2 (lo : Nat) : bits .and .u64 ((lo % 1048576 * 17592186044416 : Nat) : Int) 4294967295 = 0 := by
  rw [M64.maskN _ (by omega)]
  omega
theorem dv_v (u b q r v : Nat) (hq : u = q * 4096000000 + r) (hr : r < 4096000000) (hb : b < 4294967296) (hv : v = r * 4294967296 + b) : IntKind.u64.wrap (IntKind.u64.wrap (IntKind.u64.wrap ((u : Int) * 4294967296) + (b : Int)) - IntKind.u64.wrap ((q : Int) * 17592186044416000000)) = (v : Int) := by
  rw [wrapAdd, wrapSub, wrapS] <;> omega
theorem dv_r (u q r : Nat) (hq : u = q * 4096000000 + r) (hr : r < 4096000000) : IntKind.u64.wrap ((u : Int) - IntKind.u64.wrap ((q : Int) * 4096000000)) = (r : Int) := by
  rw [wrapSub1, wrapS] <;> omega
theorem dv_t (u q r : Nat) (hq : u = q * 4096000000 + r) (hr : r < 4096000000) : (u : Int).tdiv 4096000000 = (q : Int) := by rw [Int.tdiv_eq_ediv_of_nonneg (by omega)]; omega
theorem dv_m (b r v : Nat) (hb : b < 4294967296) (hr : r < 4096000000) (hv : v = r * 4294967296 + b) : IntKind.u64.wrap (IntKind.u64.wrap (4294967296 * (r : Int)) + (b : Int)) = (v : Int) := by
  rw [wrapAdd, wrapS] <;> omega
theorem dv_n (a : Nat) (h : a < 4294967296) : IntKind.u64.wrap (a : Int) = a := by rw [IntKind.wrap_u64]; omega
theorem dv_e (q q0 v r0 : Nat) (d1 : q < 4294967296) (d2 : q0 < 4294967296) (hq0 : v = q0 * 4096000000 + r0) (hr0 : r0 < 4096000000) : IntKind.u64.wrap (IntKind.u64.wrap ((q : Int) * 4294967296) + (q0 : Int)) = ((q * 4294967296 + q0 : Nat) : Int) ∧
    IntKind.u64.wrap (IntKind.u64.wrap (IntKind.u64.wrap ((v : Int) * 4294967296)) - IntKind.u64.wrap ((q0 : Int) * 17592186044416000000)) / 17592186044416 = ((r0 / 4096 : Nat) : Int) := by
  constructor
  · rw [wrapAdd, wrapS] <;> omega
  · rw [wrapWrap, wrapSub, wrapS] <;> omega
set_option maxHeartbeats 1000000 in
set_option maxRecDepth 100000 in
theorem div64_walk (hi lo u b q r v q0 r0 : Nat) (h0 : 0 < hi) (h1 : hi < 1000000) (h2 : lo < 18446744073709551616) (hu : u = hi * 17592186044416 + lo / 1048576) (hb : b = lo % 1048576 * 4096) (hv : v = r * 4294967296 + b)
    (hq : u = q * 4096000000 + r) (hr : r < 4096000000) (hq0 : v = q0 * 4096000000 + r0) (hr0 : r0 < 4096000000) (d1 : q < 4294967296) (d2 : q0 < 4294967296) (w : World) :
    Calls Tryz.prog 139 #[.int .u64 hi, .int .u64 lo, .int .u64 1000000] w fun e w' => e = .returned (.tuple #[.int .u64 ((q * 4294967296 + q0 : Nat) : Int), .int .u64 ((r0 / 4096 : Nat) : Int)]) ∧ w' = w := by
  have e1 : ¬ (hi : Int) = 0 := by omega
  have e2 : ¬ (1000000 : Int) ≤ hi := by omega
  have hOr := Lib.hid (dv_or hi lo u h1 h2 hu)
  have hA0 := Lib.hid (show bits .and .u64 17592186044416000000 4294967295 = 0 from by kernel_rfl)
  have hL := Lib.hid (dv_l lo)
  have hL1 := Lib.hid (dv_l1 lo b hb)
  have hL2 := Lib.hid (dv_l2 lo)
  have hT := Lib.hid (dv_t u q r hq hr)
  have hT0 := Lib.hid (dv_t v q0 r0 hq0 hr0)
  have hW1 := Lib.hid (dv_n q d1)
  have hW2 := Lib.hid (dv_n q0 d2)
  have hR := Lib.hid (dv_r u q r hq hr)
  have hR0 := Lib.hid (dv_r v q0 r0 hq0 hr0)
  have hV := Lib.hid (dv_v u b q r v hq hr (by omega) hv)
  have hC : Hid ((decide ((4294967296 : Int) ≤ q) || decide (IntKind.u64.wrap (IntKind.u64.wrap (4294967296 * (r : Int)) + (b : Int)) < 0)) = false) := Lib.hid (by
    rw [dv_m b r v (by omega) hr hv, decide_eq_false (by omega), decide_eq_false (by omega)]
    rfl)
  have hC0 : Hid ((decide ((4294967296 : Int) ≤ q0) || decide (IntKind.u64.wrap (IntKind.u64.wrap (4294967296 * (r0 : Int))) < 0)) = false) := Lib.hid (by
    have := dv_m 0 r0 (r0 * 4294967296) (by omega) hr0 (by omega)
    rw [Int.natCast_zero, Int.add_zero] at this
    rw [this, decide_eq_false (by omega), decide_eq_false (by omega)]
    rfl)
  have hE := Lib.hid (dv_e q q0 v r0 d1 d2 hq0 hr0)
  have c1 := Lib.hid (show ¬ (4294967296 : Int) ≤ q by omega)
  have c2 := Lib.hid (show ¬ (4294967296 : Int) ≤ q0 by omega)
  clear h0 hu hb hv hq hr hq0 hr0 d1 d2 h2
  go_enter Tryz.func139, Tryz.ntmps139
  go_wp2_with fail
  refine (lz64_mil w).mono ?_
  rintro en w1 ⟨rfl, rfl⟩
  go_wp2_with fail
  simp only [hOr.out, hA0.out, hL.out, hL1.out, hL2.out, hT.out, hW1.out, hR.out]
  clear hOr hL hL1 hL2 hT hW1 hR e1 e2 hA0
  have c1 := c1.out
  refine wp_loop_rounds 1 ?_
  rw [rounds_succ]
  iterate 34 (first | go_values | go_skip | go_guarded | go_step | go_upon)
  simp only [hC.out]
  go_wp2_with fail
  simp only [hV.out, hT0.out, hW2.out, hR0.out]
  clear hV hT0 hW2 hR0 hC
  clear c1
  have c2 := c2.out
  refine wp_loop_rounds 1 ?_
  rw [rounds_succ]
  iterate 34 (first | go_values | go_skip | go_guarded | go_step | go_upon)
  simp only [hC0.out]
  go_wp2_with fail
  go_ret2
  refine ⟨?_, rfl⟩
  show Ending.returned (.tuple #[.int .u64 (IntKind.u64.wrap (IntKind.u64.wrap ((q : Int) * 4294967296) + (q0 : Int))), .int .u64 (IntKind.u64.wrap (IntKind.u64.wrap (IntKind.u64.wrap ((v : Int) * 4294967296)) - IntKind.u64.wrap ((q0 : Int) * 17592186044416000000)) / 17592186044416)]) = _
  rw [hE.out.1, hE.out.2]
/-- by a million -/
theorem div64_mil (hi lo : Nat) (h1 : hi < 1000000) (h2 : lo < 18446744073709551616) (w : World) :
    Calls Tryz.prog 139 #[.int .u64 hi, .int .u64 lo, .int .u64 1000000] w fun e w' => e = .returned (.tuple #[.int .u64 (((hi * 18446744073709551616 + lo) / 1000000 : Nat) : Int), .int .u64 (((hi * 18446744073709551616 + lo) % 1000000 : Nat) : Int)]) ∧ Below w.heap.size w w' := by
  by_cases h0 : hi = 0
  · subst h0
    rw [Nat.zero_mul, Nat.zero_add]
    exact div64_low lo 1000000 (by decide) h2 (by decide) w
  · obtain ⟨d1, d2, d3, d4⟩ := div_plain hi lo _ _ _ h1 h2 rfl rfl rfl
    rw [← d3, ← d4]
    refine (div64_walk hi lo _ _ _ _ _ _ _ (by omega) h1 h2 rfl rfl rfl (Nat.div_add_mod' _ _).symm (Nat.mod_lt _ (by decide)) (Nat.div_add_mod' _ _).symm (Nat.mod_lt _ (by decide)) d1 d2 w).mono ?_
    rintro e w' ⟨rfl, rfl⟩
    exact ⟨rfl, Below.refl _ _⟩
end Go.Proofs.YtgggpaacagbmcaaGreat


/- money: size, signed, Scale. -/
set_option linter.unusedVariables false
set_option linter.unusedSimpArgs false
namespace Go.Proofs.YtgggpaacagbmcaaGreat
open Go.RowKit Go.Maps Go.Deep

theorem size_any (a : Int) (h1 : -1000000000000000 ≤ a) (h2 : a ≤ 1000000000000000) (w : World) : Calls Tryz.prog 138 #[.int .i64 a] w fun e w' => e = .returned (.int .u64 (a.natAbs : Int)) ∧ w' = w := by
  have hc : a < 0 ∨ ¬ a < 0 := by omega
  rcases hc with h | h
  · have h3 : IntKind.u64.wrap (-a) = (a.natAbs : Int) := by rw [IntKind.wrap_u64]; omega
    have h4 : wrap64 (-a) = -a := by unfold wrap64; omega
    have HE := Lib.hid h3
    have HF := Lib.hid h4
    clear h3 h4
    go_enter Tryz.func138, Tryz.ntmps138
    go_wp2_with fail
    go_ret
    exact ⟨congrArg (fun x => Ending.returned (Value.int .u64 x)) (show -a = (a.natAbs : Int) by omega), rfl⟩
  · have h3 : IntKind.u64.wrap a = (a.natAbs : Int) := by rw [IntKind.wrap_u64]; omega
    have HE := Lib.hid h3
    clear h3
    go_enter Tryz.func138, Tryz.ntmps138
    go_wp2_with fail
    go_ret
    exact ⟨congrArg (fun x => Ending.returned (Value.int .u64 x)) (show a = (a.natAbs : Int) by omega), rfl⟩
theorem signed_any (n : Nat) (a : Int) (h1 : n ≤ 1000000000000000) (w : World) : Calls Tryz.prog 140 #[.int .u64 n, .int .i64 a] w fun e w' => e = .returned (.int .i64 (signN a n)) ∧ w' = w := by
  have h3 : wrap64 (n : Int) = n := by unfold wrap64; omega
  have h4 : wrap64 (-(n : Int)) = -(n : Int) := by unfold wrap64; omega
  have HE := Lib.hid h3
  have HF := Lib.hid h4
  clear h3 h4
  unfold signN
  by_cases h : a < 0
  · rw [if_pos h]
    go_enter Tryz.func140, Tryz.ntmps140
    go_wp2_with fail
    go_ret
    exact ⟨rfl, rfl⟩
  · rw [if_neg h]
    go_enter Tryz.func140, Tryz.ntmps140
    go_wp2_with fail
    go_ret
    exact ⟨rfl, rfl⟩

/-- Div64 as Scale asks for it -/
def DivOk (m den : Nat) : Prop := ∀ w : World, Calls Tryz.prog 139 #[.int .u64 ((m / 18446744073709551616 : Nat) : Int), .int .u64 ((m % 18446744073709551616 : Nat) : Int), .int .u64 (den : Int)] w fun e w' => e = .returned (.tuple #[.int .u64 ((m / den : Nat) : Int), .int .u64 ((m % den : Nat) : Int)]) ∧ Below w.heap.size w w'
theorem divOk_mil (m : Nat) (h : m < 1000000 * 18446744073709551616) : DivOk m 1000000 := fun w => by
  have := div64_mil (m / 18446744073709551616) (m % 18446744073709551616) (by omega) (by omega) w
  rwa [Nat.div_add_mod'] at this
theorem divOk_low (m den : Nat) (h : m < 18446744073709551616) (h0 : 0 < den) (h1 : den < 18446744073709551616) : DivOk m den := fun w => by
  rw [Nat.div_eq_of_lt h, Nat.mod_eq_of_lt h]
  exact div64_low m den h0 h h1 w
set_option maxHeartbeats 4000000 in
set_option maxRecDepth 100000 in
theorem scale_walk {a num den : Int} (ha : fitsB a = true) (hn : 0 ≤ num) (hn1 : num ≤ 1000000000) (hd : 1 ≤ den) (hd1 : den ≤ 1000000000) (hk : DivOk (a.natAbs * num.toNat) den.toNat) (hlow : a.natAbs * num.toNat / 18446744073709551616 < den.toNat) (w : World) :
    Calls Tryz.prog 95 #[.int .i64 a, .int .i64 num, .int .i64 den] w fun e w' => e = .returned (.tuple #[.int .i64 (scaleT a num den).1, .int .i64 (scaleT a num den).2]) ∧ Below w.heap.size w w' := by
  have hab : -1000000000000000 ≤ a ∧ a ≤ 1000000000000000 := by simpa [fitsB] using ha
  obtain ⟨N, hN⟩ : ∃ N : Nat, N = num.toNat := ⟨_, rfl⟩
  obtain ⟨D, hD⟩ : ∃ D : Nat, D = den.toNat := ⟨_, rfl⟩
  obtain rfl : num = (N : Int) := by omega
  obtain rfl : den = (D : Int) := by omega
  rw [Int.toNat_natCast, Int.toNat_natCast] at hk hlow
  obtain ⟨m, hm⟩ : ∃ m, m = a.natAbs * N := ⟨_, rfl⟩
  rw [← hm] at hk hlow
  have hge : ¬ (D : Int) ≤ ((m / 18446744073709551616 : Nat) : Int) := by omega
  obtain ⟨n, hnq⟩ : ∃ n, n = m / D := ⟨_, rfl⟩
  obtain ⟨t, htq⟩ : ∃ t, t = m % D := ⟨_, rfl⟩
  have htD : t < D := by rw [htq]; exact Nat.mod_lt _ (by omega)
  have hnb : n < 18446744073709551616 := by
    rw [hnq]
    exact Nat.div_lt_of_lt_mul (by omega)
  unfold DivOk at hk
  rw [← hnq, ← htq] at hk
  obtain ⟨hi, hhi⟩ : ∃ x, x = m / 18446744073709551616 := ⟨_, rfl⟩
  obtain ⟨lo, hlo⟩ : ∃ x, x = m % 18446744073709551616 := ⟨_, rfl⟩
  rw [← hhi] at hge hlow
  rw [← hhi, ← hlo] at hk
  have HK := Lib.hid hk
  have HM := Lib.hid (fun w => by have := mul64_is a.natAbs N (by omega) (by omega) w; rw [← hm, ← hhi, ← hlo] at this; exact this)
  have HF := Lib.hid (mfits_lo a w.heap.size)
  have HSZ := Lib.hid (size_any a hab.1 hab.2)
  have HA := Lib.hid ha
  have HAW : Hid (I64 a) := Lib.hid (by unfold I64 Lit.wf; simp [IntKind.min, IntKind.max, IntKind.bits, IntKind.signed]; omega)
  have HZ := Lib.hid (blk_new w (.cells #[.int .i64 a] 3))
  have HB := Lib.hid ((Below.refl w.heap.size w).alloc (Nat.le_refl _) (.cells #[.int .i64 a] 3))
  have HHM := Lib.hid hm
  have HT : Hid (scaleT a N D = if 1000000000000000 < rndN n t D then (0, 2) else (signN a (rndN n t D), 0)) := Lib.hid (by
    unfold scaleT scaleN
    rw [Int.toNat_natCast, Int.toNat_natCast, ← hm, ← hnq, ← htq])
  obtain ⟨k, hkk⟩ : ∃ k : Nat, min (n : Int) 2000000000000000 = (k : Int) := ⟨min n 2000000000000000, by omega⟩
  have HKK := Lib.hid hkk
  have HKN : Hid ((n ≤ 2000000000000000 ∧ k = n) ∨ (2000000000000000 < n ∧ k = 2000000000000000)) := Lib.hid (by omega)
  have HNB := Lib.hid hnb
  have HNQ := Lib.hid hnq
  have HTQ := Lib.hid htq
  clear hk hm ha hnb hhi hlo hnq htq hN hD hlow hkk
  have HW : Hid (IntKind.u64.wrap (N : Int) = N) := Lib.hid (by rw [IntKind.wrap_u64]; omega)
  have HW2 : Hid (IntKind.u64.wrap (D : Int) = D) := Lib.hid (by rw [IntKind.wrap_u64]; omega)
  go_enter Tryz.func95, Tryz.ntmps95
  go_wp2_with fail
  refine (HF.out _ HZ.out HAW.out HA.out).mono ?_
  rintro en w1 ⟨rfl, hb⟩
  have HB1 := Lib.hid (belows_then HB.out HB.out.size hb)
  clear hb HB HZ HF
  go_wp2_with fail
  refine (HSZ.out _).mono ?_
  rintro en w2 ⟨rfl, rfl⟩
  go_wp2_with fail
  refine (HM.out _).mono ?_
  rintro en w2 ⟨rfl, rfl⟩
  go_wp2_with fail
  refine (HK.out _).mono ?_
  rintro en w3 ⟨rfl, hb⟩
  have HB3 := Lib.hid (belows_then HB1.out HB1.out.size hb)
  clear hb HB1
  have hkk := HKK.out
  have hkb : (k : Int) ≤ 2000000000000000 := by have := HKN.out; omega
  by_cases h1 : (D : Int) < 2 * (t : Int)
  · skip
    have HR : Hid (n ≤ 2000000000000000 → rndN n t D = n + 1) := Lib.hid (fun hn2 => by have := HKN.out; unfold rndN; rw [if_pos (by omega)])
    have HR2 : Hid (n ≤ rndN n t D) := Lib.hid (by unfold rndN; split <;> omega)
    by_cases h4 : (1000000000000000 : Int) < ((k : Int) + 1)
    · go_wp2_with fail
      go_ret2
      have hR : 1000000000000000 < rndN n t D := by
        have h5 := HKN.out; have h6 := HR.out; have h7 := HR2.out
        rcases h5 with ⟨h5, h8⟩ | ⟨h5, h8⟩
        · rw [h6 h5]; omega
        · omega
      rw [HT.out, if_pos hR]
      exact ⟨rfl, HB3.out⟩
    · obtain ⟨k1, hk1⟩ : ∃ k1 : Nat, (k : Int) + 1 = (k1 : Int) := ⟨k + 1, by omega⟩
      have h5 : ¬ (1000000000000000 : Int) < (k1 : Int) := by omega
      have HSG := Lib.hid (fun w => signed_any k1 a (by omega) w)
      have hR : rndN n t D = k1 := by
        have h5 := HKN.out; have h6 := HR.out
        rcases h5 with ⟨h5, h8⟩ | ⟨h5, h8⟩
        · rw [h6 h5]; omega
        · omega
      have HRR := Lib.hid hR
      have HH4 : Hid (¬ 1000000000000000 < k1) := Lib.hid (by omega)
      clear hR h4
      go_wp2_with fail
      refine (HSG.out _).mono ?_
      rintro en w4 ⟨rfl, rfl⟩
      go_wp2_with fail
      go_ret2
      rw [HT.out, HRR.out, if_neg HH4.out]
      exact ⟨rfl, HB3.out⟩
  · by_cases h2 : 2 * (t : Int) = (D : Int)
    · by_cases h3 : (k : Int).tmod 2 = 1
      · have h3' : k % 2 = 1 := by
          have h7 := h3
          rw [Int.tmod_eq_emod_of_nonneg (by omega)] at h7
          omega
        have HR : Hid (n ≤ 2000000000000000 → rndN n t D = n + 1) := Lib.hid (fun hn2 => by have := HKN.out; unfold rndN; rw [if_pos (by omega)])
        have HR2 : Hid (n ≤ rndN n t D) := Lib.hid (by unfold rndN; split <;> omega)
        by_cases h4 : (1000000000000000 : Int) < ((k : Int) + 1)
        · go_wp2_with fail
          go_ret2
          have hR : 1000000000000000 < rndN n t D := by
            have h5 := HKN.out; have h6 := HR.out; have h7 := HR2.out
            rcases h5 with ⟨h5, h8⟩ | ⟨h5, h8⟩
            · rw [h6 h5]; omega
            · omega
          rw [HT.out, if_pos hR]
          exact ⟨rfl, HB3.out⟩
        · obtain ⟨k1, hk1⟩ : ∃ k1 : Nat, (k : Int) + 1 = (k1 : Int) := ⟨k + 1, by omega⟩
          have h5 : ¬ (1000000000000000 : Int) < (k1 : Int) := by omega
          have HSG := Lib.hid (fun w => signed_any k1 a (by omega) w)
          have hR : rndN n t D = k1 := by
            have h5 := HKN.out; have h6 := HR.out
            rcases h5 with ⟨h5, h8⟩ | ⟨h5, h8⟩
            · rw [h6 h5]; omega
            · omega
          have HRR := Lib.hid hR
          have HH4 : Hid (¬ 1000000000000000 < k1) := Lib.hid (by omega)
          clear hR h4
          go_wp2_with fail
          refine (HSG.out _).mono ?_
          rintro en w4 ⟨rfl, rfl⟩
          go_wp2_with fail
          go_ret2
          rw [HT.out, HRR.out, if_neg HH4.out]
          exact ⟨rfl, HB3.out⟩
      · have h3' : k % 2 = 0 := by
          have h7 := h3
          rw [Int.tmod_eq_emod_of_nonneg (by omega)] at h7
          omega
        have HR : Hid (n ≤ 2000000000000000 → rndN n t D = n) := Lib.hid (fun hn2 => by have := HKN.out; unfold rndN; rw [if_neg (by omega)])
        have HR2 : Hid (n ≤ rndN n t D) := Lib.hid (by unfold rndN; split <;> omega)
        by_cases h4 : (1000000000000000 : Int) < (k : Int)
        · go_wp2_with fail
          go_ret2
          have hR : 1000000000000000 < rndN n t D := by
            have h5 := HKN.out; have h6 := HR.out; have h7 := HR2.out
            rcases h5 with ⟨h5, h8⟩ | ⟨h5, h8⟩
            · rw [h6 h5]; omega
            · omega
          rw [HT.out, if_pos hR]
          exact ⟨rfl, HB3.out⟩
        · have HSG := Lib.hid (fun w => signed_any k a (by omega) w)
          have hR : rndN n t D = k := by
            have h5 := HKN.out; have h6 := HR.out
            rcases h5 with ⟨h5, h8⟩ | ⟨h5, h8⟩
            · rw [h6 h5]; omega
            · omega
          have HRR := Lib.hid hR
          have HH4 : Hid (¬ 1000000000000000 < k) := Lib.hid (by omega)
          clear hR
          go_wp2_with fail
          refine (HSG.out _).mono ?_
          rintro en w4 ⟨rfl, rfl⟩
          go_wp2_with fail
          go_ret2
          rw [HT.out, HRR.out, if_neg HH4.out]
          exact ⟨rfl, HB3.out⟩
    · skip
      have HR : Hid (n ≤ 2000000000000000 → rndN n t D = n) := Lib.hid (fun hn2 => by have := HKN.out; unfold rndN; rw [if_neg (by omega)])
      have HR2 : Hid (n ≤ rndN n t D) := Lib.hid (by unfold rndN; split <;> omega)
      by_cases h4 : (1000000000000000 : Int) < (k : Int)
      · go_wp2_with fail
        go_ret2
        have hR : 1000000000000000 < rndN n t D := by
          have h5 := HKN.out; have h6 := HR.out; have h7 := HR2.out
          rcases h5 with ⟨h5, h8⟩ | ⟨h5, h8⟩
          · rw [h6 h5]; omega
          · omega
        rw [HT.out, if_pos hR]
        exact ⟨rfl, HB3.out⟩
      · have HSG := Lib.hid (fun w => signed_any k a (by omega) w)
        have hR : rndN n t D = k := by
          have h5 := HKN.out; have h6 := HR.out
          rcases h5 with ⟨h5, h8⟩ | ⟨h5, h8⟩
          · rw [h6 h5]; omega
          · omega
        have HRR := Lib.hid hR
        have HH4 : Hid (¬ 1000000000000000 < k) := Lib.hid (by omega)
        clear hR
        go_wp2_with fail
        refine (HSG.out _).mono ?_
        rintro en w4 ⟨rfl, rfl⟩
        go_wp2_with fail
        go_ret2
        rw [HT.out, HRR.out, if_neg HH4.out]
        exact ⟨rfl, HB3.out⟩
theorem scale_mil {a num : Int} (ha : fitsB a = true) (hn : 0 ≤ num) (hn1 : num ≤ 1000000000) (w : World) :
    Calls Tryz.prog 95 #[.int .i64 a, .int .i64 num, .int .i64 1000000] w fun e w' => e = .returned (.tuple #[.int .i64 (scaleT a num 1000000).1, .int .i64 (scaleT a num 1000000).2]) ∧ Below w.heap.size w w' := by
  have hab : -1000000000000000 ≤ a ∧ a ≤ 1000000000000000 := by simpa [fitsB] using ha
  have hm : a.natAbs * num.toNat ≤ 1000000000000000 * 1000000000 := Nat.mul_le_mul (by omega) (by omega)
  exact scale_walk ha hn hn1 (by decide) (by decide) (divOk_mil _ (by omega)) (by show _ < 1000000; omega) w
theorem scale_tenK {a num : Int} (ha : fitsB a = true) (hn : 0 ≤ num) (hn1 : num ≤ 10000) (w : World) :
    Calls Tryz.prog 95 #[.int .i64 a, .int .i64 num, .int .i64 10000] w fun e w' => e = .returned (.tuple #[.int .i64 (scaleT a num 10000).1, .int .i64 (scaleT a num 10000).2]) ∧ Below w.heap.size w w' := by
  have hab : -1000000000000000 ≤ a ∧ a ≤ 1000000000000000 := by simpa [fitsB] using ha
  have hm : a.natAbs * num.toNat ≤ 1000000000000000 * 10000 := Nat.mul_le_mul (by omega) (by omega)
  exact scale_walk ha hn (by omega) (by decide) (by decide) (divOk_low _ 10000 (by omega) (by decide) (by decide)) (by show _ < 10000; omega) w
end Go.Proofs.YtgggpaacagbmcaaGreat
