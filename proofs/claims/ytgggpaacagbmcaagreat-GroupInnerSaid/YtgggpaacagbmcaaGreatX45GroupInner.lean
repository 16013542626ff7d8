/- The document's sum and the document's fraction. -/
import Derived.Test.YtgggpaacagbmcaaGreatX10GroupInner
import Derived.Test.YtgggpaacagbmcaaGreatX15GroupInner
set_option linter.unusedVariables false
set_option linter.unusedSimpArgs false
namespace Go.Proofs.YtgggpaacagbmcaaGreat
open Go.RowKit Go.Maps Go.Deep

theorem abs_thenT {K : Act → World → Prop} {Q : Exit → Act → World → Prop} {e : Exit} {a : Act} {W : World} {S : World → Prop} (h : ∀ wx, S wx → Exit.then K Q e a wx) (hs : S W) : Exit.then K Q e a W := h W hs
theorem scaleT_fitT {a n d : Int} : fitsB (scaleT a n d).1 = true := by
  unfold scaleT
  split
  · rfl
  · unfold fitsB signN
    split <;> (simp; omega)
theorem sumI_bdF : ∀ (l : List Int), l.all fitsB = true → -(1000000000000000 * (l.length : Int)) ≤ sumI l ∧ sumI l ≤ 1000000000000000 * (l.length : Int)
  | [], _ => by simp [sumI]
  | v :: r, h => by
    rw [List.all_cons, Bool.and_eq_true] at h
    have ih := sumI_bdF r h.2
    have hv : -1000000000000000 ≤ v ∧ v ≤ 1000000000000000 := by simpa [fitsB] using h.1
    simp only [sumI, List.length_cons]
    omega
set_option maxHeartbeats 4000000 in
set_option maxRecDepth 100000 in
theorem radd_any (l : List Int) (a : Option Addr) (cap : Nat) (w : World) {F : Nat → Prop} (hs : Sl tInt w F a l) (hl : l.length ≤ 8000) :
    Calls Tryz.prog 101 #[.slice a l.length cap] w fun e w' => e = .returned (.tuple #[.int .i64 (addM l).1, .int .i64 (addM l).2]) ∧ w' = w := by
  have HS := Lib.hid hs
  clear hs
  obtain ⟨⟨s, er⟩, hA⟩ : ∃ t, addM l = t := ⟨_, rfl⟩
  rw [hA]
  have HA := Lib.hid hA
  clear hA
  go_enter Tryz.func101, Tryz.ntmps101
  go_wp2_with fail
  go_loopw [4, 5] (fun vo vi wr => ∃ n : Nat, n ≤ l.length ∧ vi = .int .i64 n ∧ vo = .int .i64 (sumI (l.take n)) ∧ Hid ((l.take n).all fitsB = true) ∧ wr = w) (fun _ vi _ => l.length - (Go.RowKit.intOf vi).toNat)
  case atStart => exact ⟨0, Nat.zero_le _, rfl, rfl, Lib.hid rfl, rfl⟩
  case round =>
    obtain ⟨n, hn, rfl, rfl, hall, rfl⟩ := hrel
    by_cases hlt : n < l.length
    · obtain ⟨ad, rfl, hadl, hc0⟩ := int_at HS.out n hlt
      have HSU := Lib.hid (sumI_succ l n hlt)
      have HAL := Lib.hid (all_take_succ fitsB l n hlt)
      have hbd := sumI_bdF _ hall.out
      have hnl : (l.take n).length ≤ 8000 := by rw [List.length_take]; omega
      have HNO : Hid (fitsB l[n] = false → (s, er) = (0, 2)) := Lib.hid (fun h => by
        rw [← HA.out]
        unfold addM
        have : l.all fitsB = false := by
          rw [List.all_eq_false]
          exact ⟨_, List.getElem_mem hlt, by simp [h]⟩
        rw [this]
        rfl)
      obtain ⟨S, hS⟩ : ∃ S, sumI (l.take n) = S := ⟨_, rfl⟩
      rw [hS] at HSU hbd
      rw [hS]
      have hSb : -8000000000000000000 ≤ S ∧ S ≤ 8000000000000000000 := by omega
      generalize l[n] = x at *
      clear hbd hS
      go_wp2_with fail
      refine (rfits_any x wr).mono ?_
      rintro en w2 ⟨rfl, rfl⟩
      cases hf : fitsB x
      · obtain ⟨rfl, rfl⟩ := Prod.mk.inj (HNO.out hf)
        go_wp2_with fail
        go_ret2
        exact ⟨rfl, rfl⟩
      · have hxb : -1000000000000000 ≤ x ∧ x ≤ 1000000000000000 := by simpa [fitsB] using hf
        have HA2 : Hid ((l.take (n + 1)).all fitsB = true) := Lib.hid (by rw [HAL.out, hall.out]; exact hf)
        clear hf
        go_wp2_with fail
        go_roundw
        case rel => exact ⟨n + 1, by omega, by go_num, by rw [HSU.out], HA2, by first | rfl | trivial⟩
        case measure => simp [Go.RowKit.intOf]; omega
    · have HL : Hid (l.take n = l) := Lib.hid (take_all hn hlt)
      have hall2 := hall.out
      rw [HL.out] at hall2 ⊢
      have HT : Hid ((s, er) = fitS (sumI l)) := Lib.hid (by rw [← HA.out]; unfold addM; rw [hall2]; rfl)
      obtain ⟨S, hS⟩ : ∃ S, sumI l = S := ⟨_, rfl⟩
      rw [hS] at HT ⊢
      clear hall2 hS hall
      go_wp2_with fail
      refine (rfits_any S wr).mono ?_
      rintro en w2 ⟨rfl, rfl⟩
      have ht := HT.out
      unfold fitS at ht
      cases hf : fitsB S
      · rw [hf] at ht
        obtain ⟨rfl, rfl⟩ := Prod.mk.inj ht
        go_wp2_with fail
        go_ret2
        exact ⟨rfl, rfl⟩
      · rw [hf] at ht
        obtain ⟨rfl, rfl⟩ := Prod.mk.inj ht
        clear ht
        go_wp2_with fail
        go_ret2
        exact ⟨rfl, rfl⟩

/-- the document's way to the fraction -/
theorem frac_parts (a n d : Nat) (hd : 0 < d) : a * n / d = a / d * n + a % d * n / d ∧ a * n % d = a % d * n % d := by
  have h := Nat.div_add_mod a d
  have e : a * n = a % d * n + d * (a / d * n) := by
    conv => lhs; rw [← h]
    rw [Nat.add_mul, Nat.mul_assoc, Nat.add_comm]
  constructor
  · rw [e, Nat.add_mul_div_left _ _ hd, Nat.add_comm]
  · rw [e, Nat.add_mul_mod_self_left]
theorem frac_big {a n d : Nat} (hd : 0 < d) (hn : 0 < n) (h : 1000000000000000 / n < a / d) : 1000000000000000 < scaleN (a * n) d := by
  have h1 := (scaleN_le (a * n) hd).1
  have h2 := (frac_parts a n d hd).1
  have h3 : 1000000000000000 < (1000000000000000 / n + 1) * n := by
    have := Nat.div_add_mod 1000000000000000 n
    have := Nat.mod_lt 1000000000000000 hn
    rw [Nat.add_mul, Nat.mul_comm (1000000000000000 / n) n]
    omega
  have h4 : (1000000000000000 / n + 1) * n ≤ a / d * n := Nat.mul_le_mul_right _ h
  rw [h2] at h1
  exact Nat.lt_of_lt_of_le (Nat.lt_of_lt_of_le (Nat.lt_of_lt_of_le h3 h4) (Nat.le_add_right _ _)) h1
theorem scaleT_neg {a n d : Int} (h : a < 0) : scaleT a n d = (-(scaleT (-a) n d).1, (scaleT (-a) n d).2) := by
  unfold scaleT
  have e : (-a).natAbs = a.natAbs := Int.natAbs_neg a
  rw [e]
  split
  · rfl
  · unfold signN
    rw [if_pos h, if_neg (by omega)]
/-- the fraction of what is not below 0, by the document's numbers -/
theorem scale_parts {a n d : Nat} (hd : 0 < d) (hle : n = 0 ∨ a / d ≤ 1000000000000000 / n) : scaleN (a * n) d = rndN (a / d * n + a % d * n / d) (a % d * n % d) d ∧ a / d * n ≤ 1000000000000000 := by
  obtain ⟨h1, h2⟩ := frac_parts a n d hd
  refine ⟨by unfold scaleN; rw [h1, h2], ?_⟩
  rcases hle with rfl | h
  · rw [Nat.mul_zero]; exact Nat.zero_le _
  · exact Nat.le_trans (Nat.mul_le_mul_right _ h) (Nat.div_mul_le_self _ _)
set_option maxHeartbeats 4000000 in
set_option maxRecDepth 100000 in
theorem rscale_pos (a n d : Int) (w : World) (ha : 0 ≤ a) (ha1 : a ≤ 1000000000000000) (hn : 0 ≤ n) (hn1 : n ≤ 1000000000) (hd : 1 ≤ d) (hd1 : d ≤ 1000000000) :
    Calls Tryz.prog 36 #[.int .i64 a, .int .i64 n, .int .i64 d] w fun e w' => e = .returned (.tuple #[.int .i64 (scaleT a n d).1, .int .i64 (scaleT a n d).2]) ∧ Below w.heap.size w w' := by
  have hfa : fitsB a = true := by unfold fitsB; simp; omega
  obtain ⟨A, rfl⟩ : ∃ A : Nat, a = A := ⟨a.toNat, by omega⟩
  obtain ⟨N, rfl⟩ : ∃ N : Nat, n = N := ⟨n.toNat, by omega⟩
  obtain ⟨D, rfl⟩ : ∃ D : Nat, d = D := ⟨d.toNat, by omega⟩
  have hD : 0 < D := by omega
  have hT : scaleT (A : Int) (N : Int) (D : Int) = if 1000000000000000 < scaleN (A * N) D then ((0, 2) : Int × Int) else (((scaleN (A * N) D : Nat) : Int), 0) := by
    unfold scaleT
    have e1 : ((A : Int)).natAbs = A := Int.natAbs_natCast A
    have e2 : ((N : Int)).toNat = N := Int.toNat_natCast N
    have e3 : ((D : Int)).toNat = D := Int.toNat_natCast D
    rw [e1, e2, e3]
    unfold signN
    rw [if_neg (by omega : ¬ (A : Int) < 0)]
  have hq : (A : Int).tdiv (D : Int) = ((A / D : Nat) : Int) := by rw [Int.tdiv_eq_ediv_of_nonneg (by omega)]; rfl
  have hr : (A : Int).tmod (D : Int) = ((A % D : Nat) : Int) := by rw [Int.tmod_eq_emod_of_nonneg (by omega)]; rfl
  have hql : A / D ≤ 1000000000000000 := Nat.le_trans (Nat.div_le_self _ _) (by omega)
  have hrl : A % D < D := Nat.mod_lt _ hD
  have hbig := fun (h1 : 0 < N) (h2 : 1000000000000000 / N < A / D) => frac_big (a := A) hD h1 h2
  have hpar := fun (h : N = 0 ∨ A / D ≤ 1000000000000000 / N) => scale_parts (a := A) hD h
  obtain ⟨Q, hQ⟩ : ∃ Q, A / D = Q := ⟨_, rfl⟩
  obtain ⟨R, hR⟩ : ∃ R, A % D = R := ⟨_, rfl⟩
  rw [hQ] at hq hql hbig hpar
  rw [hR] at hr hrl hpar
  obtain ⟨SC, hSC⟩ : ∃ S, scaleN (A * N) D = S := ⟨_, rfl⟩
  rw [hSC] at hT hbig hpar
  have HT := Lib.hid hT
  have HBIG := Lib.hid hbig
  have HPAR := Lib.hid hpar
  have hne : ¬ (D : Int) = 0 := by omega
  clear hT hbig hpar hQ hR hSC
  go_enter Tryz.func36, Tryz.ntmps36
  go_wp2_with fail
  refine (rfits_any (A : Int) w).mono ?_
  rintro en w1 ⟨rfl, rfl⟩
  rw [hfa]
  go_wp2_with fail
  have hcs : (0 < N ∧ 1000000000000000 / N < Q) ∨ (N = 0 ∨ 0 < N ∧ Q ≤ 1000000000000000 / N) := by
    rcases Nat.eq_zero_or_pos N with h | h
    · exact .inr (.inl h)
    · rcases Nat.lt_or_ge (1000000000000000 / N) Q with h' | h'
      · exact .inl ⟨h, h'⟩
      · exact .inr (.inr ⟨h, h'⟩)
  have hmq : (1000000000000000 : Int).tdiv (N : Int) = ((1000000000000000 / N : Nat) : Int) := by rw [Int.tdiv_eq_ediv_of_nonneg (by omega)]; rfl
  go_quiet (fail)
  refine abs_thenT (S := fun wy => Below w1.heap.size w1 wy) ?_ (below_drewN (Below.refl _ _) _)
  rintro wy hby
  have HBY := Lib.hid hby
  clear hby
  rcases hcs with ⟨hN, hlt⟩ | hle
  · have HB := Lib.hid (HBIG.out hN hlt)
    obtain ⟨m, hm⟩ : ∃ m, 1000000000000000 / N = m := ⟨_, rfl⟩
    rw [hm] at hmq hlt
    have hNn : ¬ (N : Int) = 0 := by omega
    have hml : m ≤ 1000000000000000 := by rw [← hm]; exact Nat.div_le_self _ _
    clear hm
    go_wp2_with fail
    go_ret2
    rw [HT.out, if_pos HB.out]
    exact ⟨rfl, HBY.out⟩
  · obtain ⟨hSC, hP15⟩ := HPAR.out (hle.imp id (·.2))
    obtain ⟨Pq, hPq⟩ : ∃ P, Q * N = P := ⟨_, rfl⟩
    obtain ⟨Tq, hTq⟩ : ∃ T, R * N = T := ⟨_, rfl⟩
    have hT18 : Tq ≤ 1000000000000000000 := by
      rw [← hTq]
      exact Nat.mul_le_mul (by omega : R ≤ 1000000000) (by omega : N ≤ 1000000000)
    rw [hPq, hTq] at hSC
    rw [hPq] at hP15
    have hpI : (Q : Int) * (N : Int) = (Pq : Int) := by rw [← hPq]; exact (Int.natCast_mul _ _).symm
    have htI : (R : Int) * (N : Int) = (Tq : Int) := by rw [← hTq]; exact (Int.natCast_mul _ _).symm
    have huI : (Tq : Int).tdiv (D : Int) = ((Tq / D : Nat) : Int) := by rw [Int.tdiv_eq_ediv_of_nonneg (by omega)]; rfl
    have hvI : (Tq : Int).tmod (D : Int) = ((Tq % D : Nat) : Int) := by rw [Int.tmod_eq_emod_of_nonneg (by omega)]; rfl
    have hUl : Tq / D ≤ 1000000000000000000 := Nat.le_trans (Nat.div_le_self _ _) hT18
    have hVl : Tq % D < D := Nat.mod_lt _ hD
    obtain ⟨U, hU⟩ : ∃ U, Tq / D = U := ⟨_, rfl⟩
    obtain ⟨V, hV⟩ : ∃ V, Tq % D = V := ⟨_, rfl⟩
    rw [hU] at huI hUl hSC
    rw [hV] at hvI hVl hSC
    obtain ⟨S0, hS0⟩ : ∃ S, Pq + U = S := ⟨_, rfl⟩
    rw [hS0] at hSC
    have hsI : (Pq : Int) + (U : Int) = (S0 : Int) := by omega
    have hSl : S0 ≤ 2000000000000000000 := by omega
    have hs2 : (S0 : Int).tmod 2 = ((S0 % 2 : Nat) : Int) := by rw [Int.tmod_eq_emod_of_nonneg (by omega)]; rfl
    have HSC := Lib.hid hSC
    have HD2 := Lib.hid (show 0 ≤ S0 % 2 ∧ S0 % 2 ≤ 1 by omega)
    obtain ⟨z, hz⟩ : ∃ z, S0 % 2 = z := ⟨_, rfl⟩
    rw [hz] at hs2
    have HZ := Lib.hid hz
    clear hPq hTq hU hV hS0 hSC hz
    have HND := Lib.hid (show (D < 2 * V ∧ SC = S0 + 1) ∨ (¬ D < 2 * V ∧ 2 * V = D ∧ z = 1 ∧ SC = S0 + 1) ∨ (¬ D < 2 * V ∧ 2 * V ≠ D ∧ SC = S0) ∨ (¬ D < 2 * V ∧ 2 * V = D ∧ z ≠ 1 ∧ SC = S0) from by
      rw [HSC.out]
      unfold rndN
      rw [HZ.out]
      by_cases h1 : D < 2 * V
      · left; exact ⟨h1, by rw [if_pos (.inl h1)]⟩
      · by_cases h2 : 2 * V = D
        · by_cases h3 : z = 1
          · right; left; exact ⟨h1, h2, h3, by rw [if_pos (.inr ⟨h2, h3⟩)]⟩
          · right; right; right; exact ⟨h1, h2, h3, by rw [if_neg (fun h => h.elim h1 (fun h => h3 h.2))]⟩
        · right; right; left; exact ⟨h1, h2, by rw [if_neg (fun h => h.elim h1 (fun h => h2 h.1))]⟩)
    have hV9 : V < 1000000000 := by omega
    have HNL := Lib.hid (And.intro hpI htI)
    clear hpI htI
    have hU9 : U ≤ 1000000000000000000 := hUl
    rcases hle with hN0 | ⟨hN, hle⟩
    · have hNz : ¬ (0 : Int) < (N : Int) := by omega
      have hNy : (N : Int) ≤ 0 := by omega
      clear hmq hN0
      go_wp2_with fail
      obtain ⟨hpI, htI⟩ := HNL.out
      go_quiet (fail)
      refine abs_thenT (S := fun wz => Below wy.heap.size wy wz) ?_ (below_drewN (Below.refl _ _) _)
      rintro wz hbz
      have HBZ := Lib.hid (belows_then HBY.out HBY.out.size hbz)
      clear hbz
      rcases HND.out with ⟨k1, k2⟩ | ⟨k1, k2, k3, k4⟩ | ⟨k1, k2, k4⟩ | ⟨k1, k2, k3, k4⟩
      · have g1 : decide ((D : Int) < 2 * (V : Int)) = true := by simp; omega
        have HK := Lib.hid k2
        clear k1 k2
        go_wp2_with fail
        refine (rfits_any _ wz).mono ?_
        rintro en w3 ⟨rfl, rfl⟩
        cases hf : fitsB ((S0 : Int) + 1)
        · have hb : 1000000000000000 < SC := by have := HK.out; unfold fitsB at hf; simp at hf; omega
          have HBB := Lib.hid hb
          clear hb
          go_wp2_with fail
          go_ret2
          rw [HT.out, if_pos HBB.out]
          exact ⟨rfl, HBZ.out⟩
        · have hb : ¬ 1000000000000000 < SC := by have := HK.out; unfold fitsB at hf; simp at hf; omega
          have HBB := Lib.hid hb
          clear hb
          go_wp2_with fail
          go_ret2
          rw [HT.out, if_neg HBB.out, HK.out]
          exact ⟨rfl, HBZ.out⟩
      · have g1 : decide ((D : Int) < 2 * (V : Int)) = false := by simp; omega
        have g2 : (2 * (V : Int) == (D : Int)) = true := by simp; omega
        have g3 : ((z : Int) == 1) = true := by simp; omega
        have HK := Lib.hid k4
        clear k1 k2 k3 k4
        go_wp2_with fail
        refine (rfits_any _ wz).mono ?_
        rintro en w3 ⟨rfl, rfl⟩
        cases hf : fitsB ((S0 : Int) + 1)
        · have hb : 1000000000000000 < SC := by have := HK.out; unfold fitsB at hf; simp at hf; omega
          have HBB := Lib.hid hb
          clear hb
          go_wp2_with fail
          go_ret2
          rw [HT.out, if_pos HBB.out]
          exact ⟨rfl, HBZ.out⟩
        · have hb : ¬ 1000000000000000 < SC := by have := HK.out; unfold fitsB at hf; simp at hf; omega
          have HBB := Lib.hid hb
          clear hb
          go_wp2_with fail
          go_ret2
          rw [HT.out, if_neg HBB.out, HK.out]
          exact ⟨rfl, HBZ.out⟩
      · have g1 : decide ((D : Int) < 2 * (V : Int)) = false := by simp; omega
        have g2 : (2 * (V : Int) == (D : Int)) = false := by simp; omega
        have HK := Lib.hid k4
        clear k1 k2 k4
        go_wp2_with fail
        refine (rfits_any _ wz).mono ?_
        rintro en w3 ⟨rfl, rfl⟩
        cases hf : fitsB ((S0 : Int))
        · have hb : 1000000000000000 < SC := by have := HK.out; unfold fitsB at hf; simp at hf; omega
          have HBB := Lib.hid hb
          clear hb
          go_wp2_with fail
          go_ret2
          rw [HT.out, if_pos HBB.out]
          exact ⟨rfl, HBZ.out⟩
        · have hb : ¬ 1000000000000000 < SC := by have := HK.out; unfold fitsB at hf; simp at hf; omega
          have HBB := Lib.hid hb
          clear hb
          go_wp2_with fail
          go_ret2
          rw [HT.out, if_neg HBB.out, HK.out]
          exact ⟨rfl, HBZ.out⟩
      · have g1 : decide ((D : Int) < 2 * (V : Int)) = false := by simp; omega
        have g2 : (2 * (V : Int) == (D : Int)) = true := by simp; omega
        have g3 : ((z : Int) == 1) = false := by simp; omega
        have HK := Lib.hid k4
        clear k1 k2 k3 k4
        go_wp2_with fail
        refine (rfits_any _ wz).mono ?_
        rintro en w3 ⟨rfl, rfl⟩
        cases hf : fitsB ((S0 : Int))
        · have hb : 1000000000000000 < SC := by have := HK.out; unfold fitsB at hf; simp at hf; omega
          have HBB := Lib.hid hb
          clear hb
          go_wp2_with fail
          go_ret2
          rw [HT.out, if_pos HBB.out]
          exact ⟨rfl, HBZ.out⟩
        · have hb : ¬ 1000000000000000 < SC := by have := HK.out; unfold fitsB at hf; simp at hf; omega
          have HBB := Lib.hid hb
          clear hb
          go_wp2_with fail
          go_ret2
          rw [HT.out, if_neg HBB.out, HK.out]
          exact ⟨rfl, HBZ.out⟩
    · obtain ⟨m, hm⟩ : ∃ m, 1000000000000000 / N = m := ⟨_, rfl⟩
      rw [hm] at hmq hle
      have hNn : ¬ (N : Int) = 0 := by omega
      have hNp : (0 : Int) < (N : Int) := by omega
      have hml : m ≤ 1000000000000000 := by rw [← hm]; exact Nat.div_le_self _ _
      have hqm : decide ((m : Int) < (Q : Int)) = false := by simp; omega
      have hqm2 : ((m : Int) < (Q : Int)) = False := by simp; omega
      have hgN : decide ((0 : Int) < (N : Int)) = true := by simp; omega
      clear hm
      go_wp2_with fail
      obtain ⟨hpI, htI⟩ := HNL.out
      go_quiet (fail)
      refine abs_thenT (S := fun wz => Below wy.heap.size wy wz) ?_ (below_drewN (Below.refl _ _) _)
      rintro wz hbz
      have HBZ := Lib.hid (belows_then HBY.out HBY.out.size hbz)
      clear hbz
      rcases HND.out with ⟨k1, k2⟩ | ⟨k1, k2, k3, k4⟩ | ⟨k1, k2, k4⟩ | ⟨k1, k2, k3, k4⟩
      · have g1 : decide ((D : Int) < 2 * (V : Int)) = true := by simp; omega
        have HK := Lib.hid k2
        clear k1 k2
        go_wp2_with fail
        refine (rfits_any _ wz).mono ?_
        rintro en w3 ⟨rfl, rfl⟩
        cases hf : fitsB ((S0 : Int) + 1)
        · have hb : 1000000000000000 < SC := by have := HK.out; unfold fitsB at hf; simp at hf; omega
          have HBB := Lib.hid hb
          clear hb
          go_wp2_with fail
          go_ret2
          rw [HT.out, if_pos HBB.out]
          exact ⟨rfl, HBZ.out⟩
        · have hb : ¬ 1000000000000000 < SC := by have := HK.out; unfold fitsB at hf; simp at hf; omega
          have HBB := Lib.hid hb
          clear hb
          go_wp2_with fail
          go_ret2
          rw [HT.out, if_neg HBB.out, HK.out]
          exact ⟨rfl, HBZ.out⟩
      · have g1 : decide ((D : Int) < 2 * (V : Int)) = false := by simp; omega
        have g2 : (2 * (V : Int) == (D : Int)) = true := by simp; omega
        have g3 : ((z : Int) == 1) = true := by simp; omega
        have HK := Lib.hid k4
        clear k1 k2 k3 k4
        go_wp2_with fail
        refine (rfits_any _ wz).mono ?_
        rintro en w3 ⟨rfl, rfl⟩
        cases hf : fitsB ((S0 : Int) + 1)
        · have hb : 1000000000000000 < SC := by have := HK.out; unfold fitsB at hf; simp at hf; omega
          have HBB := Lib.hid hb
          clear hb
          go_wp2_with fail
          go_ret2
          rw [HT.out, if_pos HBB.out]
          exact ⟨rfl, HBZ.out⟩
        · have hb : ¬ 1000000000000000 < SC := by have := HK.out; unfold fitsB at hf; simp at hf; omega
          have HBB := Lib.hid hb
          clear hb
          go_wp2_with fail
          go_ret2
          rw [HT.out, if_neg HBB.out, HK.out]
          exact ⟨rfl, HBZ.out⟩
      · have g1 : decide ((D : Int) < 2 * (V : Int)) = false := by simp; omega
        have g2 : (2 * (V : Int) == (D : Int)) = false := by simp; omega
        have HK := Lib.hid k4
        clear k1 k2 k4
        go_wp2_with fail
        refine (rfits_any _ wz).mono ?_
        rintro en w3 ⟨rfl, rfl⟩
        cases hf : fitsB ((S0 : Int))
        · have hb : 1000000000000000 < SC := by have := HK.out; unfold fitsB at hf; simp at hf; omega
          have HBB := Lib.hid hb
          clear hb
          go_wp2_with fail
          go_ret2
          rw [HT.out, if_pos HBB.out]
          exact ⟨rfl, HBZ.out⟩
        · have hb : ¬ 1000000000000000 < SC := by have := HK.out; unfold fitsB at hf; simp at hf; omega
          have HBB := Lib.hid hb
          clear hb
          go_wp2_with fail
          go_ret2
          rw [HT.out, if_neg HBB.out, HK.out]
          exact ⟨rfl, HBZ.out⟩
      · have g1 : decide ((D : Int) < 2 * (V : Int)) = false := by simp; omega
        have g2 : (2 * (V : Int) == (D : Int)) = true := by simp; omega
        have g3 : ((z : Int) == 1) = false := by simp; omega
        have HK := Lib.hid k4
        clear k1 k2 k3 k4
        go_wp2_with fail
        refine (rfits_any _ wz).mono ?_
        rintro en w3 ⟨rfl, rfl⟩
        cases hf : fitsB ((S0 : Int))
        · have hb : 1000000000000000 < SC := by have := HK.out; unfold fitsB at hf; simp at hf; omega
          have HBB := Lib.hid hb
          clear hb
          go_wp2_with fail
          go_ret2
          rw [HT.out, if_pos HBB.out]
          exact ⟨rfl, HBZ.out⟩
        · have hb : ¬ 1000000000000000 < SC := by have := HK.out; unfold fitsB at hf; simp at hf; omega
          have HBB := Lib.hid hb
          clear hb
          go_wp2_with fail
          go_ret2
          rw [HT.out, if_neg HBB.out, HK.out]
          exact ⟨rfl, HBZ.out⟩
theorem rscale_any {a n d : Int} (w : World) (ha : fitsB a = true) (hn : 0 ≤ n) (hn1 : n ≤ 1000000000) (hd : 1 ≤ d) (hd1 : d ≤ 1000000000) :
    Calls Tryz.prog 36 #[.int .i64 a, .int .i64 n, .int .i64 d] w fun e w' => e = .returned (.tuple #[.int .i64 (scaleT a n d).1, .int .i64 (scaleT a n d).2]) ∧ Below w.heap.size w w' := by
  have hab : -1000000000000000 ≤ a ∧ a ≤ 1000000000000000 := by simpa [fitsB] using ha
  by_cases h0 : 0 ≤ a
  · exact rscale_pos a n d w h0 hab.2 hn hn1 hd hd1
  · have h1 : a < 0 := by omega
    have HP := Lib.hid (rscale_pos (-a) n d w (by omega) (by omega) hn hn1 hd hd1)
    have hT := scaleT_neg (n := n) (d := d) h1
    have hsf : fitsB (scaleT (-a) n d).1 = true := scaleT_fitT
    obtain ⟨⟨s, er⟩, hs⟩ : ∃ t, scaleT (-a) n d = t := ⟨_, rfl⟩
    rw [hs] at hT HP hsf
    have hsb : -1000000000000000 ≤ s ∧ s ≤ 1000000000000000 := by simpa [fitsB] using hsf
    have HT := Lib.hid hT
    clear hT hs hsf
    go_enter Tryz.func36, Tryz.ntmps36
    go_wp2_with fail
    refine (rfits_any a w).mono ?_
    rintro en w1 ⟨rfl, rfl⟩
    rw [ha]
    go_wp2_with fail
    refine HP.out.mono ?_
    rintro en w2 ⟨rfl, hb⟩
    have HB := Lib.hid hb
    clear hb
    go_wp2_with fail
    go_ret2
    rw [HT.out]
    exact ⟨rfl, HB.out⟩
end Go.Proofs.YtgggpaacagbmcaaGreat
