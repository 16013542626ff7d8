/- Plain: an amount times a fraction, a half to the even one. -/
import Derived.Test.YtbgkladgeijgdaaGreatX03GroupOne
import Derived.WalkKit
import Derived.Below
import Derived.Lib.Mul64
import Derived.Laws.Bits64b
import Derived.Deep.QuietTactic
import Derived.LoopN
import Derived.Lib.Hide
set_option linter.unusedVariables false
set_option linter.unusedSimpArgs false
namespace Go.Proofs.YtbgkladgeijgdaaGreat
open Go.RowKit Go.Maps Go.Deep

/-- a half to the even one -/
def rndN (n rest den : Nat) : Nat := if den < 2 * rest ∨ (2 * rest = den ∧ n % 2 = 1) then n + 1 else n
def scaleN (m den : Nat) : Nat := rndN (m / den) (m % den) den
def signN (a : Int) (n : Nat) : Int := if a < 0 then -(n : Int) else (n : Int)
/-- money.Scale where the fraction may be -/
def scaleT (a num den : Int) : Int × Int := if 1000000000000000 < scaleN (a.natAbs * num.toNat) den.toNat then (0, 2) else (signN a (scaleN (a.natAbs * num.toNat) den.toNat), 0)
theorem scaleN_mul (n : Nat) {den : Nat} (h : 0 < den) : scaleN (n * den) den = n := by
  unfold scaleN rndN
  rw [Nat.mul_div_cancel _ h, Nat.mul_mod_left]
  rw [if_neg (by omega)]
theorem scaleN_zero {den : Nat} (h : 0 < den) : scaleN 0 den = 0 := by
  have := scaleN_mul 0 h
  rwa [Nat.zero_mul] at this
theorem scaleN_mono {m m' den : Nat} (h : 0 < den) (hm : m ≤ m') : scaleN m den ≤ scaleN m' den := by
  unfold scaleN rndN
  have h1 := Nat.div_add_mod m den
  have h2 := Nat.div_add_mod m' den
  have h3 := Nat.mod_lt m h
  have h4 := Nat.mod_lt m' h
  have h5 : m / den ≤ m' / den := Nat.div_le_div_right hm
  rcases Nat.lt_or_ge (m / den) (m' / den) with hlt | hge
  · split <;> split <;> omega
  · have e : m / den = m' / den := by omega
    rw [e] at h1 ⊢
    have h6 : m % den ≤ m' % den := by omega
    split
    · rename_i hc
      rw [if_pos (by omega)]
      exact Nat.le_refl _
    · split <;> omega
theorem scaleN_le (m : Nat) {den : Nat} (h : 0 < den) : m / den ≤ scaleN m den ∧ scaleN m den ≤ m / den + 1 := by
  unfold scaleN rndN
  split <;> omega
theorem signN_abs (a : Int) : signN a a.natAbs = a := by
  unfold signN
  split <;> omega
theorem scale_same {a den : Int} (ha : fitsB a = true) (hd : 0 < den) : scaleT a den den = (a, 0) := by
  have hb : -1000000000000000 ≤ a ∧ a ≤ 1000000000000000 := by simpa [fitsB] using ha
  unfold scaleT
  rw [scaleN_mul _ (by omega : 0 < den.toNat), if_neg (by omega), signN_abs]
theorem scale_none (a : Int) {den : Int} (hd : 0 < den) : scaleT a 0 den = (0, 0) := by
  unfold scaleT
  have : a.natAbs * (0 : Int).toNat = 0 := by simp
  rw [this, scaleN_zero (by omega : 0 < den.toNat), if_neg (by omega)]
  unfold signN
  simp

set_option maxRecDepth 100000 in
/-- bits.Div64's steps where the divisor is 1000000 -/
theorem div_plain (hi lo un32 un21 un1 : Nat) (h1 : hi < 1000000) (h2 : lo < 18446744073709551616) (e1 : un32 = hi * 17592186044416 + lo / 1048576) (e2 : un1 = lo % 1048576 * 4096) (e3 : un21 = un32 % 4096000000 * 4294967296 + un1) :
    un32 / 4096000000 < 4294967296 ∧ un21 / 4096000000 < 4294967296 ∧ un32 / 4096000000 * 4294967296 + un21 / 4096000000 = (hi * 18446744073709551616 + lo) / 1000000 ∧ un21 % 4096000000 / 4096 = (hi * 18446744073709551616 + lo) % 1000000 := by
  have c1 : un32 < 17592186044416000000 := by omega
  have a1 : un32 / 4096000000 < 4294967296 := Nat.div_lt_of_lt_mul (by rw [show 4096000000 * 4294967296 = 17592186044416000000 from rfl]; exact c1)
  have c2 : un21 < 17592186044416000000 := by omega
  have a2 : un21 / 4096000000 < 4294967296 := Nat.div_lt_of_lt_mul (by rw [show 4096000000 * 4294967296 = 17592186044416000000 from rfl]; exact c2)
  obtain ⟨q1, hq1⟩ : ∃ q, un32 / 4096000000 = q := ⟨_, rfl⟩
  obtain ⟨r1, hr1⟩ : ∃ q, un32 % 4096000000 = q := ⟨_, rfl⟩
  obtain ⟨q0, hq0⟩ : ∃ q, un21 / 4096000000 = q := ⟨_, rfl⟩
  obtain ⟨r2, hr2⟩ : ∃ q, un21 % 4096000000 = q := ⟨_, rfl⟩
  have b1 : un32 = q1 * 4096000000 + r1 := by rw [← hq1, ← hr1, Nat.mul_comm]; exact (Nat.div_add_mod un32 4096000000).symm
  have b2 : un21 = q0 * 4096000000 + r2 := by rw [← hq0, ← hr2, Nat.mul_comm]; exact (Nat.div_add_mod un21 4096000000).symm
  have hr2' : r2 < 4096000000 := by omega
  rw [hq1] at a1 ⊢
  rw [hr1] at e3
  rw [hq0] at a2 ⊢
  rw [hr2]
  have key : (hi * 18446744073709551616 + lo) * 4096 = (q1 * 4294967296 + q0) * 4096000000 + r2 := by
    omega
  clear hq1 hr1 hq0 hr2 e1 e2 e3 b1 b2
  refine ⟨a1, a2, ?_, ?_⟩ <;> omega
end Go.Proofs.YtbgkladgeijgdaaGreat


/- math/bits: Mul64; Div64 where the first half is none, and by a million. -/
set_option linter.unusedVariables false
set_option linter.unusedSimpArgs false
namespace Go.Proofs.YtbgkladgeijgdaaGreat
open Go.RowKit

namespace M64
theorem maskN (a : Nat) (ha : a < 18446744073709551616) : bits .and .u64 (a : Int) 4294967295 = ((a % 4294967296 : Nat) : Int) := by
  have h := bits_and_u64_nat a 4294967295 ha (by omega)
  have e : a &&& 4294967295 = a % 4294967296 := Nat.and_two_pow_sub_one_eq_mod a 32
  rw [e] at h
  exact h
theorem divN (a : Nat) : (a : Int) / 4294967296 = ((a / 4294967296 : Nat) : Int) := by omega
theorem mulN (a b : Nat) : (a : Int) * (b : Int) = ((a * b : Nat) : Int) := (Int.natCast_mul a b).symm
theorem addN (a b : Nat) : (a : Int) + (b : Int) = ((a + b : Nat) : Int) := (Int.natCast_add a b).symm
theorem wrapN (a : Nat) (ha : a < 18446744073709551616) : IntKind.u64.wrap (a : Int) = (a : Int) := by rw [IntKind.wrap_u64]; omega
theorem wrapM (a : Nat) : IntKind.u64.wrap (a : Int) = ((a % 18446744073709551616 : Nat) : Int) := by rw [IntKind.wrap_u64]; omega
end M64

set_option maxHeartbeats 1000000 in
theorem mul64_is (x y : Nat) (hx : x < 18446744073709551616) (hy : y < 18446744073709551616) (w : World) :
    Calls Tryz.prog 130 #[.int .u64 x, .int .u64 y] w fun e w' => e = .returned (.tuple #[.int .u64 ((x * y / 18446744073709551616 : Nat) : Int), .int .u64 ((x * y % 18446744073709551616 : Nat) : Int)]) ∧ w' = w := by
  obtain ⟨bd, bt, bw, hhi⟩ := Lib.mul64_hi x y hx hy
  have ba := Lib.half_mul_le (a := x / 4294967296) (b := y / 4294967296) (by omega) (by omega)
  have bb := Lib.half_mul_le (a := x / 4294967296) (b := y % 4294967296) (by omega) (by omega)
  have bc := Lib.half_mul_le (a := x % 4294967296) (b := y / 4294967296) (by omega) (by omega)
  have ba' : x / 4294967296 * (y / 4294967296) < 18446744073709551616 := by omega
  have bb' : x / 4294967296 * (y % 4294967296) < 18446744073709551616 := by omega
  have bc' : x % 4294967296 * (y / 4294967296) < 18446744073709551616 := by omega
  have bh1 : x / 4294967296 * (y / 4294967296) + (x / 4294967296 * (y % 4294967296) + x % 4294967296 * (y % 4294967296) / 4294967296) / 4294967296 < 18446744073709551616 := by omega
  have bh : x / 4294967296 * (y / 4294967296) + (x / 4294967296 * (y % 4294967296) + x % 4294967296 * (y % 4294967296) / 4294967296) / 4294967296 + ((x / 4294967296 * (y % 4294967296) + x % 4294967296 * (y % 4294967296) / 4294967296) % 4294967296 + x % 4294967296 * (y / 4294967296)) / 4294967296 < 18446744073709551616 := by omega
  go_enter Tryz.func130, Tryz.ntmps130
  go_wp2
  simp only [M64.maskN x hx, M64.maskN y hy, M64.divN, M64.mulN, M64.addN, M64.wrapN _ bd, M64.wrapN _ bb', M64.wrapN _ bt, M64.maskN _ bt, M64.wrapN _ bc', M64.wrapN _ bw, M64.wrapN _ ba', M64.wrapN _ bh1, M64.wrapN _ bh, M64.wrapM (x * y)]
  rw [hhi]
  go_ret2
  exact ⟨rfl, rfl⟩
set_option maxRecDepth 100000 in
theorem len64_mil (w : World) : Calls Tryz.prog 170 #[.int .u64 1000000] w fun e w' => e = .returned (.int .i64 20) ∧ w' = w := by
  go_enter Tryz.func170, Tryz.ntmps170
  go_wp2
  go_ret
  exact ⟨by kernel_rfl, rfl⟩
set_option maxRecDepth 100000 in
theorem lz64_mil (w : World) : Calls Tryz.prog 154 #[.int .u64 1000000] w fun e w' => e = .returned (.int .i64 44) ∧ w' = w := by
  go_enter Tryz.func154, Tryz.ntmps154
  go_wp2
  go_ret
  exact ⟨by kernel_rfl, rfl⟩
set_option maxHeartbeats 1000000 in
theorem div64_low (lo y : Nat) (h0 : 0 < y) (h1 : lo < 18446744073709551616) (h2 : y < 18446744073709551616) (w : World) :
    Calls Tryz.prog 132 #[.int .u64 0, .int .u64 lo, .int .u64 y] w fun e w' => e = .returned (.tuple #[.int .u64 ((lo / y : Nat) : Int), .int .u64 ((lo % y : Nat) : Int)]) ∧ Below w.heap.size w w' := by
  have e1 : ¬ (y : Int) = 0 := by omega
  have e2 : ¬ (y : Int) ≤ 0 := by omega
  go_enter Tryz.func132, Tryz.ntmps132
  go_wp2_with fail
  go_quiet (fail)
  go_wp2_with fail
  go_ret2
  have h3 : IntKind.u64.wrap ((lo : Int) / (y : Int)) = ((lo / y : Nat) : Int) := by
    have := Nat.div_le_self lo y
    rw [show ((lo : Int) / (y : Int)) = ((lo / y : Nat) : Int) from (Int.natCast_ediv lo y).symm]
    exact M64.wrapN _ (by omega)
  have h4 : (lo : Int).tmod (y : Int) = ((lo % y : Nat) : Int) := by rw [Int.tmod_eq_emod_of_nonneg (by omega), Int.natCast_emod]
  refine ⟨?_, below_drewN (Below.refl _ _) _⟩
  show Ending.returned (.tuple #[.int .u64 (IntKind.u64.wrap ((lo : Int) / (y : Int))), .int .u64 ((lo : Int).tmod (y : Int))]) = _
  rw [h3, h4]
theorem wrapS (a : Int) (h : 0 ≤ a) (h2 : a < 18446744073709551616) : IntKind.u64.wrap a = a := by rw [IntKind.wrap_u64]; omega
theorem wrapAdd (a b : Int) : IntKind.u64.wrap (IntKind.u64.wrap a + b) = IntKind.u64.wrap (a + b) := by simp only [IntKind.wrap_u64]; rw [Int.emod_add_emod]
theorem wrapSub (a b : Int) : IntKind.u64.wrap (IntKind.u64.wrap a - IntKind.u64.wrap b) = IntKind.u64.wrap (a - b) := by simp only [IntKind.wrap_u64]; rw [← Int.sub_emod]
theorem wrapWrap (a : Int) : IntKind.u64.wrap (IntKind.u64.wrap a) = IntKind.u64.wrap a := by simp only [IntKind.wrap_u64]; rw [Int.emod_emod]
theorem wrapSub1 (a b : Int) : IntKind.u64.wrap (a - IntKind.u64.wrap b) = IntKind.u64.wrap (a - b) := by simp only [IntKind.wrap_u64]; rw [Int.sub_emod, Int.emod_emod, ← Int.sub_emod]
theorem dv_or (hi lo u : Nat) (h1 : hi < 1000000) (h2 : lo < 18446744073709551616) (hu : u = hi * 17592186044416 + lo / 1048576) : bits .or .u64 ((hi : Int) * 17592186044416) ((lo : Int) / 1048576) = (u : Int) := by
  have h := bits_or_u64_nat (hi * 17592186044416) (lo / 1048576) (by omega) (by omega)
  have e := Nat.two_pow_add_eq_or_of_lt (i := 44) (b := lo / 1048576) (by omega) hi
  have e0 : (2 : Nat) ^ 44 = 17592186044416 := by decide
  rw [e0, Nat.mul_comm] at e
  rw [← e, ← hu] at h
  rw [show (hi : Int) * 17592186044416 = ((hi * 17592186044416 : Nat) : Int) by omega, show (lo : Int) / 1048576 = ((lo / 1048576 : Nat) : Int) by omega, h]
theorem dv_l (lo : Nat) : IntKind.u64.wrap ((lo : Int) * 17592186044416) = ((lo % 1048576 * 17592186044416 : Nat) : Int) := by rw [IntKind.wrap_u64]; omega
theorem dv_l1 (lo b : Nat) (hb : b = lo % 1048576 * 4096) : ((lo % 1048576 * 17592186044416 : Nat) : Int) / 4294967296 = (b : Int) := by omega
theorem dv_l2 (lo : Nat) : bits .and .u64 ((lo % 1048576 * 17592186044416 : Nat) : Int) 4294967295 = 0 := by
  rw [M64.maskN _ (by omega)]
  omega
theorem dv_v (u b q r v : Nat) (hq : u = q * 4096000000 + r) (hr : r < 4096000000) (hb : b < 4294967296) (hv : v = r * 4294967296 + b) : IntKind.u64.wrap (IntKind.u64.wrap (IntKind.u64.wrap ((u : Int) * 4294967296) + (b : Int)) - IntKind.u64.wrap ((q : Int) * 17592186044416000000)) = (v : Int) := by
  rw [wrapAdd, wrapSub, wrapS] <;> omega
theorem dv_r (u q r : Nat) (hq : u = q * 4096000000 + r) (hr : r < 4096000000) : IntKind.u64.wrap ((u : Int) - IntKind.u64.wrap ((q : Int) * 4096000000)) = (r : Int) := by
  rw [wrapSub1, wrapS] <;> omega
theorem dv_t (u q r : Nat) (hq : u = q * 4096000000 + r) (hr : r < 4096000000) : (u : Int).tdiv 4096000000 = (q : Int) := by rw [Int.tdiv_eq_ediv_of_nonneg (by omega)]; omega
theorem dv_m (b r v : Nat) (hb : b < 4294967296) (hr : r < 4096000000) (hv : v = r * 4294967296 + b) : IntKind.u64.wrap (IntKind.u64.wrap (4294967296 * (r : Int)) + (b : Int)) = (v : Int) := by
  rw [wrapAdd, wrapS] <;> omega
theorem dv_n (a : Nat) (h : a < 4294967296) : IntKind.u64.wrap (a : Int) = a := by rw [IntKind.wrap_u64]; omega
theorem dv_e (q q0 v r0 : Nat) (d1 : q < 4294967296) (d2 : q0 < 4294967296) (hq0 : v = q0 * 4096000000 + r0) (hr0 : r0 < 4096000000) : IntKind.u64.wrap (IntKind.u64.wrap ((q : Int) * 4294967296) + (q0 : Int)) = ((q * 4294967296 + q0 : Nat) : Int) ∧
    IntKind.u64.wrap (IntKind.u64.wrap (IntKind.u64.wrap ((v : Int) * 4294967296)) - IntKind.u64.wrap ((q0 : Int) * 17592186044416000000)) / 17592186044416 = ((r0 / 4096 : Nat) : Int) := by
  constructor
  · rw [wrapAdd, wrapS] <;> omega
  · rw [wrapWrap, wrapSub, wrapS] <;> omega
set_option maxHeartbeats 1000000 in
set_option maxRecDepth 100000 in
theorem div64_walk (hi lo u b q r v q0 r0 : Nat) (h0 : 0 < hi) (h1 : hi < 1000000) (h2 : lo < 18446744073709551616) (hu : u = hi * 17592186044416 + lo / 1048576) (hb : b = lo % 1048576 * 4096) (hv : v = r * 4294967296 + b)
    (hq : u = q * 4096000000 + r) (hr : r < 4096000000) (hq0 : v = q0 * 4096000000 + r0) (hr0 : r0 < 4096000000) (d1 : q < 4294967296) (d2 : q0 < 4294967296) (w : World) :
    Calls Tryz.prog 132 #[.int .u64 hi, .int .u64 lo, .int .u64 1000000] w fun e w' => e = .returned (.tuple #[.int .u64 ((q * 4294967296 + q0 : Nat) : Int), .int .u64 ((r0 / 4096 : Nat) : Int)]) ∧ w' = w := by
  have e1 : ¬ (hi : Int) = 0 := by omega
  have e2 : ¬ (1000000 : Int) ≤ hi := by omega
  have hOr := Lib.hid (dv_or hi lo u h1 h2 hu)
  have hA0 := Lib.hid (show bits .and .u64 17592186044416000000 4294967295 = 0 from by kernel_rfl)
  have hL := Lib.hid (dv_l lo)
  have hL1 := Lib.hid (dv_l1 lo b hb)
  have hL2 := Lib.hid (dv_l2 lo)
  have hT := Lib.hid (dv_t u q r hq hr)
  have hT0 := Lib.hid (dv_t v q0 r0 hq0 hr0)
  have hW1 := Lib.hid (dv_n q d1)
  have hW2 := Lib.hid (dv_n q0 d2)
  have hR := Lib.hid (dv_r u q r hq hr)
  have hR0 := Lib.hid (dv_r v q0 r0 hq0 hr0)
  have hV := Lib.hid (dv_v u b q r v hq hr (by omega) hv)
  have hC : Hid ((decide ((4294967296 : Int) ≤ q) || decide (IntKind.u64.wrap (IntKind.u64.wrap (4294967296 * (r : Int)) + (b : Int)) < 0)) = false) := Lib.hid (by
    rw [dv_m b r v (by omega) hr hv, decide_eq_false (by omega), decide_eq_false (by omega)]
    rfl)
  have hC0 : Hid ((decide ((4294967296 : Int) ≤ q0) || decide (IntKind.u64.wrap (IntKind.u64.wrap (4294967296 * (r0 : Int))) < 0)) = false) := Lib.hid (by
    have := dv_m 0 r0 (r0 * 4294967296) (by omega) hr0 (by omega)
    rw [Int.natCast_zero, Int.add_zero] at this
    rw [this, decide_eq_false (by omega), decide_eq_false (by omega)]
    rfl)
  have hE := Lib.hid (dv_e q q0 v r0 d1 d2 hq0 hr0)
  have c1 := Lib.hid (show ¬ (4294967296 : Int) ≤ q by omega)
  have c2 := Lib.hid (show ¬ (4294967296 : Int) ≤ q0 by omega)
  clear h0 hu hb hv hq hr hq0 hr0 d1 d2 h2
  go_enter Tryz.func132, Tryz.ntmps132
  go_wp2_with fail
  refine (lz64_mil w).mono ?_
  rintro en w1 ⟨rfl, rfl⟩
  go_wp2_with fail
  simp only [hOr.out, hA0.out, hL.out, hL1.out, hL2.out, hT.out, hW1.out, hR.out]
  clear hOr hL hL1 hL2 hT hW1 hR e1 e2 hA0
  have c1 := c1.out
  refine wp_loop_rounds 1 ?_
  rw [rounds_succ]
  iterate 34 (first | go_values | go_skip | go_guarded | go_step | go_upon)
  simp only [hC.out]
  go_wp2_with fail
  simp only [hV.out, hT0.out, hW2.out, hR0.out]
  clear hV hT0 hW2 hR0 hC
  clear c1
  have c2 := c2.out
  refine wp_loop_rounds 1 ?_
  rw [rounds_succ]
  iterate 34 (first | go_values | go_skip | go_guarded | go_step | go_upon)
  simp only [hC0.out]
  go_wp2_with fail
  go_ret2
  refine ⟨?_, rfl⟩
  show Ending.returned (.tuple #[.int .u64 (IntKind.u64.wrap (IntKind.u64.wrap ((q : Int) * 4294967296) + (q0 : Int))), .int .u64 (IntKind.u64.wrap (IntKind.u64.wrap (IntKind.u64.wrap ((v : Int) * 4294967296)) - IntKind.u64.wrap ((q0 : Int) * 17592186044416000000)) / 17592186044416)]) = _
  rw [hE.out.1, hE.out.2]
/-- by a million -/
theorem div64_mil (hi lo : Nat) (h1 : hi < 1000000) (h2 : lo < 18446744073709551616) (w : World) :
    Calls Tryz.prog 132 #[.int .u64 hi, .int .u64 lo, .int .u64 1000000] w fun e w' => e = .returned (.tuple #[.int .u64 (((hi * 18446744073709551616 + lo) / 1000000 : Nat) : Int), .int .u64 (((hi * 18446744073709551616 + lo) % 1000000 : Nat) : Int)]) ∧ Below w.heap.size w w' := by
  by_cases h0 : hi = 0
  · subst h0
    rw [Nat.zero_mul, Nat.zero_add]
    exact div64_low lo 1000000 (by decide) h2 (by decide) w
  · obtain ⟨d1, d2, d3, d4⟩ := div_plain hi lo _ _ _ h1 h2 rfl rfl rfl
    rw [← d3, ← d4]
    refine (div64_walk hi lo _ _ _ _ _ _ _ (by omega) h1 h2 rfl rfl rfl (Nat.div_add_mod' _ _).symm (Nat.mod_lt _ (by decide)) (Nat.div_add_mod' _ _).symm (Nat.mod_lt _ (by decide)) d1 d2 w).mono ?_
    rintro e w' ⟨rfl, rfl⟩
    exact ⟨rfl, Below.refl _ _⟩
end Go.Proofs.YtbgkladgeijgdaaGreat
