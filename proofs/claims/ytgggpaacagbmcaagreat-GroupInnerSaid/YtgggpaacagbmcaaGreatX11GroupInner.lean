/- math/bits: Mul64; Div64 where the first half is none, and by a million. -/
import Derived.Test.YtgggpaacagbmcaaGreatX10GroupInner
import Derived.WalkKit
import Derived.Below
import Derived.Lib.Mul64
import Derived.Laws.Bits64b
import Derived.Deep.QuietTactic
import Derived.LoopN
import Derived.Lib.Hide
import Derived.Orders
import Derived.Deep.RegionHeld3
set_option linter.unusedVariables false
set_option linter.unusedSimpArgs false
namespace Go.Proofs.YtgggpaacagbmcaaGreat
open Go.RowKit

namespace M64
theorem maskN (a : Nat) (ha : a < 18446744073709551616) : bits .and .u64 (a : Int) 4294967295 = ((a % 4294967296 : Nat) : Int) := by
  have h := bits_and_u64_nat a 4294967295 ha (by omega)
  have e : a &&& 4294967295 = a % 4294967296 := Nat.and_two_pow_sub_one_eq_mod a 32
  rw [e] at h
  exact h
theorem divN (a : Nat) : (a : Int) / 4294967296 = ((a / 4294967296 : Nat) : Int) := by omega
theorem mulN (a b : Nat) : (a : Int) * (b : Int) = ((a * b : Nat) : Int) := (Int.natCast_mul a b).symm
theorem addN (a b : Nat) : (a : Int) + (b : Int) = ((a + b : Nat) : Int) := (Int.natCast_add a b).symm
theorem wrapN (a : Nat) (ha : a < 18446744073709551616) : IntKind.u64.wrap (a : Int) = (a : Int) := by rw [IntKind.wrap_u64]; omega
theorem wrapM (a : Nat) : IntKind.u64.wrap (a : Int) = ((a % 18446744073709551616 : Nat) : Int) := by rw [IntKind.wrap_u64]; omega
end M64

set_option maxHeartbeats 1000000 in
theorem mul64_is (x y : Nat) (hx : x < 18446744073709551616) (hy : y < 18446744073709551616) (w : World) :
    Calls Tryz.prog 137 #[.int .u64 x, .int .u64 y] w fun e w' => e = .returned (.tuple #[.int .u64 ((x * y / 18446744073709551616 : Nat) : Int), .int .u64 ((x * y % 18446744073709551616 : Nat) : Int)]) ∧ w' = w := by
  obtain ⟨bd, bt, bw, hhi⟩ := Lib.mul64_hi x y hx hy
  have ba := Lib.half_mul_le (a := x / 4294967296) (b := y / 4294967296) (by omega) (by omega)
  have bb := Lib.half_mul_le (a := x / 4294967296) (b := y % 4294967296) (by omega) (by omega)
  have bc := Lib.half_mul_le (a := x % 4294967296) (b := y / 4294967296) (by omega) (by omega)
  have ba' : x / 4294967296 * (y / 4294967296) < 18446744073709551616 := by omega
  have bb' : x / 4294967296 * (y % 4294967296) < 18446744073709551616 := by omega
  have bc' : x % 4294967296 * (y / 4294967296) < 18446744073709551616 := by omega
  have bh1 : x / 4294967296 * (y / 4294967296) + (x / 4294967296 * (y % 4294967296) + x % 4294967296 * (y % 4294967296) / 4294967296) / 4294967296 < 18446744073709551616 := by omega
  have bh : x / 4294967296 * (y / 4294967296) + (x / 4294967296 * (y % 4294967296) + x % 4294967296 * (y % 4294967296) / 4294967296) / 4294967296 + ((x / 4294967296 * (y % 4294967296) + x % 4294967296 * (y % 4294967296) / 4294967296) % 4294967296 + x % 4294967296 * (y / 4294967296)) / 4294967296 < 18446744073709551616 := by omega
  go_enter Tryz.func137, Tryz.ntmps137
  go_wp2
  simp only [M64.maskN x hx, M64.maskN y hy, M64.divN, M64.mulN, M64.addN, M64.wrapN _ bd, M64.wrapN _ bb', M64.wrapN _ bt, M64.maskN _ bt, M64.wrapN _ bc', M64.wrapN _ bw, M64.wrapN _ ba', M64.wrapN _ bh1, M64.wrapN _ bh, M64.wrapM (x * y)]
  rw [hhi]
  go_ret2
  exact ⟨rfl, rfl⟩
set_option maxRecDepth 100000 in
theorem len64_mil (w : World) : Calls Tryz.prog 175 #[.int .u64 1000000] w fun e w' => e = .returned (.int .i64 20) ∧ w' = w := by
  go_enter Tryz.func175, Tryz.ntmps175
  go_wp2
  go_ret
  exact ⟨by kernel_rfl, rfl⟩
set_option maxRecDepth 100000 in
theorem lz64_mil (w : World) : Calls Tryz.prog 163 #[.int .u64 1000000] w fun e w' => e = .returned (.int .i64 44) ∧ w' = w := by
  go_enter Tryz.func163, Tryz.ntmps163
  go_wp2
  go_ret
  exact ⟨by kernel_rfl, rfl⟩
set_option maxHeartbeats 1000000 in
theorem div64_low (lo y : Nat) (h0 : 0 < y) (h1 : lo < 18446744073709551616) (h2 : y < 18446744073709551616) (w : World) :
    Calls Tryz.prog 139 #[.int .u64 0, .int .u64 lo, .int .u64 y] w fun e w' => e = .returned (.tuple #[.int .u64 ((lo / y : Nat) : Int), .int .u64 ((lo % y : Nat) : Int)]) ∧ Below w.heap.size w w' := by
  have e1 : ¬ (y : Int) = 0 := by omega
  have e2 : ¬ (y : Int) ≤ 0 := by omega
  go_enter Tryz.func139, Tryz.ntmps139
  go_wp2_with fail
  go_quiet (fail)
  go_wp2_with fail
  go_ret2
  have h3 : IntKind.u64.wrap ((lo : Int) / (y : Int)) = ((lo / y : Nat) : Int) := by
    have := Nat.div_le_self lo y
    rw [show ((lo : Int) / (y : Int)) = ((lo / y : Nat) : Int) from (Int.natCast_ediv lo y).symm]
    exact M64.wrapN _ (by omega)
  have h4 : (lo : Int).tmod (y : Int) = ((lo % y : Nat) : Int) := by rw [Int.tmod_eq_emod_of_nonneg (by omega), Int.natCast_emod]
  refine ⟨?_, below_drewN (Below.refl _ _) _⟩
  show Ending.returned (.tuple #[.int .u64 (IntKind.u64.wrap ((lo : Int) / (y : Int))), .int .u64 ((lo : Int).tmod (y : Int))]) = _
  rw [h3, h4]
theorem wrapS (a : Int) (h : 0 ≤ a) (h2 : a < 18446744073709551616) : IntKind.u64.wrap a = a := by rw [IntKind.wrap_u64]; omega
theorem wrapAdd (a b : Int) : IntKind.u64.wrap (IntKind.u64.wrap a + b) = IntKind.u64.wrap (a + b) := by simp only [IntKind.wrap_u64]; rw [Int.emod_add_emod]
theorem wrapSub (a b : Int) : IntKind.u64.wrap (IntKind.u64.wrap a - IntKind.u64.wrap b) = IntKind.u64.wrap (a - b) := by simp only [IntKind.wrap_u64]; rw [← Int.sub_emod]
theorem wrapWrap (a : Int) : IntKind.u64.wrap (IntKind.u64.wrap a) = IntKind.u64.wrap a := by simp only [IntKind.wrap_u64]; rw [Int.emod_emod]
theorem wrapSub1 (a b : Int) : IntKind.u64.wrap (a - IntKind.u64.wrap b) = IntKind.u64.wrap (a - b) := by simp only [IntKind.wrap_u64]; rw [Int.sub_emod, Int.emod_emod, ← Int.sub_emod]
theorem dv_or (hi lo u : Nat) (h1 : hi < 1000000) (h2 : lo < 18446744073709551616) (hu : u = hi * 17592186044416 + lo / 1048576) : bits .or .u64 ((hi : Int) * 17592186044416) ((lo : Int) / 1048576) = (u : Int) := by
  have h := bits_or_u64_nat (hi * 17592186044416) (lo / 1048576) (by omega) (by omega)
  have e := Nat.two_pow_add_eq_or_of_lt (i := 44) (b := lo / 1048576) (by omega) hi
  have e0 : (2 : Nat) ^ 44 = 17592186044416 := by decide
  rw [e0, Nat.mul_comm] at e
  rw [← e, ← hu] at h
  rw [show (hi : Int) * 17592186044416 = ((hi * 17592186044416 : Nat) : Int) by omega, show (lo : Int) / 1048576 = ((lo / 1048576 : Nat) : Int) by omega, h]
theorem dv_l (lo : Nat) : IntKind.u64.wrap ((lo : Int) * 17592186044416) = ((lo % 1048576 * 17592186044416 : Nat) : Int) := by rw [IntKind.wrap_u64]; omega
theorem dv_l1 (lo b : Nat) (hb : b = lo % 1048576 * 4096) : ((lo % 1048576 * 17592186044416 : Nat) : Int) / 4294967296 = (b : Int) := by omega
theorem dv_l2 (lo : Nat) : bits .and .u64 ((lo % 1048576 * 17592186044416 : Nat) : Int) 4294967295 = 0 := by
  rw [M64.maskN _ (by omega)]
  omega
theorem dv_v (u b q r v : Nat) (hq : u = q * 4096000000 + r) (hr : r < 4096000000) (hb : b < 4294967296) (hv : v = r * 4294967296 + b) : IntKind.u64.wrap (IntKind.u64.wrap (IntKind.u64.wrap ((u : Int) * 4294967296) + (b : Int)) - IntKind.u64.wrap ((q : Int) * 17592186044416000000)) = (v : Int) := by
  rw [wrapAdd, wrapSub, wrapS] <;> omega
theorem dv_r (u q r : Nat) (hq : u = q * 4096000000 + r) (hr : r < 4096000000) : IntKind.u64.wrap ((u : Int) - IntKind.u64.wrap ((q : Int) * 4096000000)) = (r : Int) := by
  rw [wrapSub1, wrapS] <;> omega
theorem dv_t (u q r : Nat) (hq : u = q * 4096000000 + r) (hr : r < 4096000000) : (u : Int).tdiv 4096000000 = (q : Int) := by rw [Int.tdiv_eq_ediv_of_nonneg (by omega)]; omega
theorem dv_m (b r v : Nat) (hb : b < 4294967296) (hr : r < 4096000000) (hv : v = r * 4294967296 + b) : IntKind.u64.wrap (IntKind.u64.wrap (4294967296 * (r : Int)) + (b : Int)) = (v : Int) := by
  rw [wrapAdd, wrapS] <;> omega
theorem dv_n (a : Nat) (h : a < 4294967296) : IntKind.u64.wrap (a : Int) = a := by rw [IntKind.wrap_u64]; omega
theorem dv_e (q q0 v r0 : Nat) (d1 : q < 4294967296) (d2 : q0 < 4294967296) (hq0 : v = q0 * 4096000000 + r0) (hr0 : r0 < 4096000000) : IntKind.u64.wrap (IntKind.u64.wrap ((q : Int) * 4294967296) + (q0 : Int)) = ((q * 4294967296 + q0 : Nat) : Int) ∧
    IntKind.u64.wrap (IntKind.u64.wrap (IntKind.u64.wrap ((v : Int) * 4294967296)) - IntKind.u64.wrap ((q0 : Int) * 17592186044416000000)) / 17592186044416 = ((r0 / 4096 : Nat) : Int) := by
  constructor
  · rw [wrapAdd, wrapS] <;> omega
  · rw [wrapWrap, wrapSub, wrapS] <;> omega
set_option maxHeartbeats 1000000 in
set_option maxRecDepth 100000 in
theorem div64_walk (hi lo u b q r v q0 r0 : Nat) (h0 : 0 < hi) (h1 : hi < 1000000) (h2 : lo < 18446744073709551616) (hu : u = hi * 17592186044416 + lo / 1048576) (hb : b = lo % 1048576 * 4096) (hv : v = r * 4294967296 + b)
    (hq : u = q * 4096000000 + r) (hr : r < 4096000000) (hq0 : v = q0 * 4096000000 + r0) (hr0 : r0 < 4096000000) (d1 : q < 4294967296) (d2 : q0 < 4294967296) (w : World) :
    Calls Tryz.prog 139 #[.int .u64 hi, .int .u64 lo, .int .u64 1000000] w fun e w' => e = .returned (.tuple #[.int .u64 ((q * 4294967296 + q0 : Nat) : Int), .int .u64 ((r0 / 4096 : Nat) : Int)]) ∧ w' = w := by
  have e1 : ¬ (hi : Int) = 0 := by omega
  have e2 : ¬ (1000000 : Int) ≤ hi := by omega
  have hOr := Lib.hid (dv_or hi lo u h1 h2 hu)
  have hA0 := Lib.hid (show bits .and .u64 17592186044416000000 4294967295 = 0 from by kernel_rfl)
  have hL := Lib.hid (dv_l lo)
  have hL1 := Lib.hid (dv_l1 lo b hb)
  have hL2 := Lib.hid (dv_l2 lo)
  have hT := Lib.hid (dv_t u q r hq hr)
  have hT0 := Lib.hid (dv_t v q0 r0 hq0 hr0)
  have hW1 := Lib.hid (dv_n q d1)
  have hW2 := Lib.hid (dv_n q0 d2)
  have hR := Lib.hid (dv_r u q r hq hr)
  have hR0 := Lib.hid (dv_r v q0 r0 hq0 hr0)
  have hV := Lib.hid (dv_v u b q r v hq hr (by omega) hv)
  have hC : Hid ((decide ((4294967296 : Int) ≤ q) || decide (IntKind.u64.wrap (IntKind.u64.wrap (4294967296 * (r : Int)) + (b : Int)) < 0)) = false) := Lib.hid (by
    rw [dv_m b r v (by omega) hr hv, decide_eq_false (by omega), decide_eq_false (by omega)]
    rfl)
  have hC0 : Hid ((decide ((4294967296 : Int) ≤ q0) || decide (IntKind.u64.wrap (IntKind.u64.wrap (4294967296 * (r0 : Int))) < 0)) = false) := Lib.hid (by
    have := dv_m 0 r0 (r0 * 4294967296) (by omega) hr0 (by omega)
    rw [Int.natCast_zero, Int.add_zero] at this
    rw [this, decide_eq_false (by omega), decide_eq_false (by omega)]
    rfl)
  have hE := Lib.hid (dv_e q q0 v r0 d1 d2 hq0 hr0)
  have c1 := Lib.hid (show ¬ (4294967296 : Int) ≤ q by omega)
  have c2 := Lib.hid (show ¬ (4294967296 : Int) ≤ q0 by omega)
  clear h0 hu hb hv hq hr hq0 hr0 d1 d2 h2
  go_enter Tryz.func139, Tryz.ntmps139
  go_wp2_with fail
  refine (lz64_mil w).mono ?_
  rintro en w1 ⟨rfl, rfl⟩
  go_wp2_with fail
  simp only [hOr.out, hA0.out, hL.out, hL1.out, hL2.out, hT.out, hW1.out, hR.out]
  clear hOr hL hL1 hL2 hT hW1 hR e1 e2 hA0
  have c1 := c1.out
  refine wp_loop_rounds 1 ?_
  rw [rounds_succ]
  iterate 34 (first | go_values | go_skip | go_guarded | go_step | go_upon)
  simp only [hC.out]
  go_wp2_with fail
  simp only [hV.out, hT0.out, hW2.out, hR0.out]
  clear hV hT0 hW2 hR0 hC
  clear c1
  have c2 := c2.out
  refine wp_loop_rounds 1 ?_
  rw [rounds_succ]
  iterate 34 (first | go_values | go_skip | go_guarded | go_step | go_upon)
  simp only [hC0.out]
  go_wp2_with fail
  go_ret2
  refine ⟨?_, rfl⟩
  show Ending.returned (.tuple #[.int .u64 (IntKind.u64.wrap (IntKind.u64.wrap ((q : Int) * 4294967296) + (q0 : Int))), .int .u64 (IntKind.u64.wrap (IntKind.u64.wrap (IntKind.u64.wrap ((v : Int) * 4294967296)) - IntKind.u64.wrap ((q0 : Int) * 17592186044416000000)) / 17592186044416)]) = _
  rw [hE.out.1, hE.out.2]
/-- by a million -/
theorem div64_mil (hi lo : Nat) (h1 : hi < 1000000) (h2 : lo < 18446744073709551616) (w : World) :
    Calls Tryz.prog 139 #[.int .u64 hi, .int .u64 lo, .int .u64 1000000] w fun e w' => e = .returned (.tuple #[.int .u64 (((hi * 18446744073709551616 + lo) / 1000000 : Nat) : Int), .int .u64 (((hi * 18446744073709551616 + lo) % 1000000 : Nat) : Int)]) ∧ Below w.heap.size w w' := by
  by_cases h0 : hi = 0
  · subst h0
    rw [Nat.zero_mul, Nat.zero_add]
    exact div64_low lo 1000000 (by decide) h2 (by decide) w
  · obtain ⟨d1, d2, d3, d4⟩ := div_plain hi lo _ _ _ h1 h2 rfl rfl rfl
    rw [← d3, ← d4]
    refine (div64_walk hi lo _ _ _ _ _ _ _ (by omega) h1 h2 rfl rfl rfl (Nat.div_add_mod' _ _).symm (Nat.mod_lt _ (by decide)) (Nat.div_add_mod' _ _).symm (Nat.mod_lt _ (by decide)) d1 d2 w).mono ?_
    rintro e w' ⟨rfl, rfl⟩
    exact ⟨rfl, Below.refl _ _⟩
end Go.Proofs.YtgggpaacagbmcaaGreat

/- A region that draws its order, shown by what holds between its operations, whatever was done so far. -/
set_option linter.unusedVariables false
set_option linter.unusedSimpArgs false
namespace Go.Proofs.YtgggpaacagbmcaaGreat
open Go

/-- each operation waits for earlier ones alone -/
def backB (l : List Oper) : Bool := (List.range l.length).all fun i => ((l[i]?).map fun o => o.after.all fun e => !Region.binds .any e || decide (e.on < i)).getD true
def updD (d : Nat → Bool) (i : Nat) : Nat → Bool := fun j => j == i || d j

section
variable {P : Program} {Q : Exit → Act → World → Prop}

theorem wpAny_inv {md : Region.Mode} {ops : Array Oper} {I : (Nat → Bool) → Act → World → Prop}
    (hEnd : ∀ listed a w, listed.size = ops.size → I (fun i => listed.getD i false) a w → Region.ready md ops listed = [] → Q .normal a w)
    (hS : ∀ i listed a w, listed.size = ops.size → I (fun i => listed.getD i false) a w → i ∈ Region.ready md ops listed → wpOp P ops Q i (I (fun j => (listed.setIfInBounds i true).getD j false)) a w) :
    ∀ (fuel : Nat) (listed : Array Bool) (a : Act) (w : World), listed.size = ops.size → (listed.toList.countP (fun b => !b)) ≤ fuel → I (fun i => listed.getD i false) a w → wpAny P md ops Q fuel listed a w := by
  intro fuel
  induction fuel with
  | zero =>
    intro listed a w hs hc hI
    have hr : Region.ready md ops listed = [] := by
      unfold Region.ready
      rw [List.filter_eq_nil_iff]
      intro i hi hc'
      rw [List.mem_range] at hi
      have hz : listed.toList.countP (fun b => !b) = 0 := by omega
      rw [List.countP_eq_zero] at hz
      have hlt : i < listed.size := by omega
      have := hz listed[i] (by simp)
      simp [hlt] at hc' this
      rw [hc'.1] at this
      cases this
    exact ⟨hr, hEnd listed a w hs hI hr⟩
  | succ fuel ih =>
    intro listed a w hs hc hI
    refine ⟨fun hr => hEnd listed a w hs hI hr, fun i hi => ?_⟩
    refine wpOp_mono (fun a' w' h => ih _ a' w' (by simpa using hs) ?_ h) (hS i listed a w hs hI hi)
    have hun : listed.getD i true = false := by
      unfold Region.ready at hi
      rw [List.mem_filter] at hi
      have := hi.2
      simp at this
      simpa using this.1
    have hlt : i < listed.size := by
      rcases Nat.lt_or_ge i listed.size with h | h
      · exact h
      · simp [Array.getElem?_eq_none h] at hun
    have hv : listed[i] = false := by simpa [hlt] using hun
    have : (listed.setIfInBounds i true).toList.countP (fun b => !b) + 1 = listed.toList.countP (fun b => !b) := by
      rw [Array.toList_setIfInBounds, List.countP_set (by simpa using hlt)]
      have hg : listed.toList[i] = false := by simpa using hv
      rw [hg]
      have hpos : 0 < listed.toList.countP (fun b => !b) := List.countP_pos_iff.2 ⟨false, by rw [← hg]; exact List.getElem_mem _, rfl⟩
      simp only [Bool.not_false, Bool.not_true, if_true, Bool.false_eq_true, if_false]
      omega
    omega

/-- what is asked of each operation -/
def InvSteps (P : Program) (Q : Exit → Act → World → Prop) (I : (Nat → Bool) → Act → World → Prop) : List Oper → Nat → Prop
  | [], _ => True
  | o :: l, k => (∀ d a w, I d a w → d k = false → (∀ e ∈ o.after.toList, Region.binds .any e = true → d e.on = true) → o.wp P a w (I (updD d k)) Q) ∧ InvSteps P Q I l (k + 1)
theorem InvSteps.at {I : (Nat → Bool) → Act → World → Prop} : ∀ {l : List Oper} {k : Nat}, InvSteps P Q I l k → ∀ {i : Nat} {o : Oper}, l[i]? = some o →
    ∀ d a w, I d a w → d (k + i) = false → (∀ e ∈ o.after.toList, Region.binds .any e = true → d e.on = true) → o.wp P a w (I (updD d (k + i))) Q
  | [], _, _, i, o, h => by simp at h
  | x :: l, k, hs, 0, o, h => by
    simp at h
    subst h
    exact hs.1
  | x :: l, k, hs, i + 1, o, h => by
    have := InvSteps.at (l := l) (k := k + 1) hs.2 (i := i) (o := o) (by simpa using h)
    rw [show k + (i + 1) = k + 1 + i from by omega]
    exact this

theorem wp_region_inv {id : Nat} {a : Act} {w : World} {l : List Oper} (hm : P.follows .mixedOrders = true) (hB : backB l = true) (hg : l.all (fun o => o.guard.isNone) = true) (I : (Nat → Bool) → Act → World → Prop)
    (hC : ∀ d d' a w, (∀ i, i < l.length → d i = d' i) → I d a w → I d' a w)
    (h0 : I (fun _ => false) a w.drew) (hEnd : ∀ d a w, (∀ i, i < l.length → d i = true) → I d a w → Q .normal a w) (hS : InvSteps P Q I l 0) :
    (Code.region id l.toArray true).wp P Q a w := by
  refine wp_region_any hm (wpAny_inv (I := I) ?_ ?_ _ _ _ _ (by simp) ?_ ?_)
  · intro listed a w hs hI hr
    refine hEnd _ a w (fun i hi => ?_) hI
    -- the least that is not done would be ready
    rcases Classical.em (∀ i, i < l.length → listed.getD i false = true) with h | h
    · exact h i hi
    · exfalso
      have hex : ∃ n, n < l.length ∧ listed.getD n false = false := by
        rcases Classical.em (∃ n, n < l.length ∧ listed.getD n false = false) with h' | h'
        · exact h'
        · refine absurd (fun n hn => ?_) h
          cases hv : listed.getD n false with
          | true => rfl
          | false => exact absurd ⟨n, hn, hv⟩ h'
      have least : ∀ n, (n < l.length ∧ listed.getD n false = false) → ∃ m, m < l.length ∧ listed.getD m false = false ∧ ∀ j, j < m → listed.getD j false = true := by
        intro n
        induction n using Nat.strongRecOn with
        | _ n ih =>
          intro hn
          rcases Classical.em (∃ j, j < n ∧ listed.getD j false = false) with ⟨j, hj, hv⟩ | h'
          · exact ih j hj ⟨by omega, hv⟩
          · refine ⟨n, hn.1, hn.2, fun j hj => ?_⟩
            cases hv : listed.getD j false with
            | true => rfl
            | false => exact absurd ⟨j, hj, hv⟩ h'
      obtain ⟨n, hn⟩ := hex
      obtain ⟨m, hm1, hm2, hm3⟩ := least n hn
      have hsz : listed.size = l.length := by simpa using hs
      have : m ∈ Region.ready .any l.toArray listed := by
        unfold Region.ready
        rw [List.mem_filter]
        refine ⟨by simpa using hm1, ?_⟩
        have hlt : m < listed.size := by omega
        have h1 : listed.getD m true = false := by simpa [hlt] using hm2
        rw [h1]
        have hbk := hB
        unfold backB at hbk
        rw [List.all_eq_true] at hbk
        have hb1 := hbk m (by simpa using hm1)
        rw [List.getElem?_eq_getElem hm1] at hb1
        simp only [Option.map_some, Option.getD_some] at hb1
        simp only [List.getElem?_toArray, List.getElem?_eq_getElem hm1, Option.map_some, Option.getD_some, Bool.not_false, Bool.true_and]
        rw [Array.all_eq_true'] at hb1 ⊢
        intro e he
        have := hb1 e he
        cases hbe : Region.binds .any e with
        | false => simp
        | true =>
          rw [hbe] at this
          simp only [Bool.not_true, Bool.false_or, decide_eq_true_eq] at this
          rw [hm3 e.on this]
          simp
      rw [hr] at this
      cases this
  · intro i listed a w hs hI hi
    unfold Region.ready at hi
    rw [List.mem_filter, List.mem_range] at hi
    obtain ⟨hi1, hi2⟩ := hi
    have hi1' : i < l.length := by simpa using hi1
    have hsz : listed.size = l.length := by simpa using hs
    have hlt : i < listed.size := by omega
    rw [Bool.and_eq_true] at hi2
    obtain ⟨h1, h2⟩ := hi2
    simp only [List.getElem?_toArray, List.getElem?_eq_getElem hi1', Option.map_some, Option.getD_some] at h2
    have hun : listed.getD i false = false := by
      have : listed.getD i true = false := by simpa using h1
      simpa [hlt] using this
    have ho : l.toArray[i]? = some l[i] := by simp [hi1']
    unfold wpOp
    rw [ho]
    simp only
    have hgi : l[i].guard = none := by
      have := List.all_eq_true.1 hg l[i] (List.getElem_mem hi1')
      simpa using this
    have hw : Region.wanted l[i] (yielded l.toArray a.tmps) = true := by simp [Region.wanted, hgi]
    rw [if_pos hw]
    left
    have hst := hS.at (List.getElem?_eq_getElem hi1') _ a w hI (by simpa using hun) (fun e he hb => by
      rw [Array.all_eq_true'] at h2
      have := h2 e (by simpa using he)
      simpa [hb] using this)
    refine Oper.wp_mono (fun a' w' h => hC _ _ a' w' (fun j hj => ?_) h) hst
    unfold updD
    have hj' : j < listed.size := by omega
    simp only [Nat.zero_add]
    by_cases hji : j = i
    · subst hji
      simp [hj']
    · rw [show (j == i) = false from by simpa using hji]
      have : (listed.setIfInBounds i true).getD j false = listed.getD j false := by
        simp [Array.getElem?_setIfInBounds, Ne.symm hji, Array.getD_eq_getD_getElem?]
      rw [this]
      rfl
  · rw [Array.toList_replicate, List.countP_replicate]
    simp
  · exact hC (fun _ => false) _ _ _ (fun i hi => by simp [hi]) h0
end
end Go.Proofs.YtgggpaacagbmcaaGreat
