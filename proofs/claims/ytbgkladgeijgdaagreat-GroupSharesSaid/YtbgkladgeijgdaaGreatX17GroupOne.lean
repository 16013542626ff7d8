/- money: take, tell, Add; trial.Sum. -/
import Derived.Test.YtbgkladgeijgdaaGreatX16GroupOne
import Derived.Test.YtbgkladgeijgdaaGreatX04GroupOne
set_option linter.unusedVariables false
set_option linter.unusedSimpArgs false
namespace Go.Proofs.YtbgkladgeijgdaaGreat
open Go.RowKit Go.Maps

theorem quo_rem (a : Int) (h1 : -1000000000000000 ≤ a) (h2 : a ≤ 1000000000000000) : ∃ q r : Int, a.tdiv 1000000000 = q ∧ a.tmod 1000000000 = r ∧ a = q * 1000000000 + r ∧ -1000000000 < r ∧ r < 1000000000 ∧ -1000000 ≤ q ∧ q ≤ 1000000 := by
  refine ⟨_, _, rfl, rfl, ?_⟩
  rcases Int.le_total 0 a with h | h
  · rw [Int.tdiv_eq_ediv_of_nonneg h, Int.tmod_eq_emod_of_nonneg h]
    omega
  · obtain ⟨b, rfl⟩ : ∃ b, a = -b := ⟨-a, by omega⟩
    rw [Int.neg_tdiv, Int.neg_tmod, Int.tdiv_eq_ediv_of_nonneg (by omega), Int.tmod_eq_emod_of_nonneg (by omega)]
    omega
theorem quo_rem2 (a : Int) (h1 : -2000000000 < a) (h2 : a < 2000000000) : ∃ q r : Int, a.tdiv 1000000000 = q ∧ a.tmod 1000000000 = r ∧ a = q * 1000000000 + r ∧ -1000000000 < r ∧ r < 1000000000 ∧ -1 ≤ q ∧ q ≤ 1 := by
  refine ⟨_, _, rfl, rfl, ?_⟩
  rcases Int.le_total 0 a with h | h
  · rw [Int.tdiv_eq_ediv_of_nonneg h, Int.tmod_eq_emod_of_nonneg h]
    omega
  · obtain ⟨b, rfl⟩ : ∃ b, a = -b := ⟨-a, by omega⟩
    rw [Int.neg_tdiv, Int.neg_tmod, Int.tdiv_eq_ediv_of_nonneg (by omega), Int.tmod_eq_emod_of_nonneg (by omega)]
    omega

def TakePost (w : World) (g : Nat) (s h : Int) (e : Ending) (w' : World) : Prop :=
  e = .returned (.tuple #[]) ∧ (∃ hi lo : Int, w'.heap[g]? = some (.cells #[.int .i64 hi, .int .i64 lo] 209 (0, 0)) ∧ hi * 1000000000 + lo = s ∧ -1000000000 < lo ∧ lo < 1000000000 ∧ -h ≤ hi ∧ hi ≤ h) ∧ But (· = g) w w'

set_option maxHeartbeats 4000000 in
set_option maxRecDepth 100000 in
theorem take_any {w : World} {g : Nat} (hi lo a h : Int) (hc : w.heap[g]? = some (.cells #[.int .i64 hi, .int .i64 lo] 209 (0, 0))) (h1 : -1000000000 < lo) (h2 : lo < 1000000000) (h3 : -h ≤ hi) (h4 : hi ≤ h) (h5 : h ≤ 1000000000000) (a1 : -1000000000000000 ≤ a) (a2 : a ≤ 1000000000000000) :
    Calls Tryz.prog 134 #[.pointer (some ⟨g, 0, none⟩), .int .i64 a] w (TakePost w g (hi * 1000000000 + lo + a) (h + 1000001)) := by
  obtain ⟨q, r, hq, hr, e1, r1, r2, q1, q2⟩ := quo_rem a a1 a2
  obtain ⟨q', r', hq', hr', e2, r1', r2', q1', q2'⟩ := quo_rem2 (lo + r) (by omega) (by omega)
  have HE : Hid ((hi + q + q') * 1000000000 + r' = hi * 1000000000 + lo + a) := Lib.hid (by omega)
  have H := Lib.hid hc
  have hcc := blk_cells hc
  have hcl := blk_lt hc
  have hcf := blk_frz hc
  clear hc e1 e2
  go_enter Tryz.func134, Tryz.ntmps134
  go_wp2_with fail
  refine abs_world (S := fun wx => wx.heap[g]? = some (.cells #[.int .i64 (hi + q), .int .i64 (lo + r)] 209 (0, 0)) ∧ But (· = g) w wx) ?_ ⟨?_, ?_⟩
  · rintro wx ⟨hx, hb⟩
    have HX := Lib.hid hx
    have HB := Lib.hid hb
    clear hcc hcl hcf
    have hcc := blk_cells hx
    have hcl := blk_lt hx
    have hcf := blk_frz hx
    clear hx hb
    refine still_tail 12 (by kernel_rfl) (by kernel_rfl) ?_
    simp only [List.take_succ_cons, List.take_zero, List.drop_succ_cons, List.drop_zero]
    repeat still_step
    try refine wpStill_nil ?_
    go_wp2_with fail
    go_end0
    refine ⟨rfl, ⟨hi + q + q', r', ?_, HE.out, r1', r2', by omega, by omega⟩, ?_⟩
    · have := blk_set (blk_set HX.out 0 (.int .i64 (hi + q + q'))) 1 (.int .i64 r')
      simp at this
      exact this
    · exact ((HB.out.setCell (p := ⟨g, 0, none⟩) (.inl rfl) _).setCell (p := ⟨g, 1, none⟩) (.inl rfl) _).drew
  · have := blk_set (blk_set H.out 0 (.int .i64 (hi + q))) 1 (.int .i64 (lo + r))
    simpa using this
  · exact ((But.refl (· = g) w).setCell (p := ⟨g, 0, none⟩) (.inl rfl) _).setCell (p := ⟨g, 1, none⟩) (.inl rfl) _

def fitS (s : Int) : Int × Int := if fitsB s then (s, 0) else (0, 2)
set_option maxHeartbeats 4000000 in
set_option maxRecDepth 100000 in
theorem mtell_any {w : World} {g : Nat} (hi lo s h : Int) (hc : w.heap[g]? = some (.cells #[.int .i64 hi, .int .i64 lo] 209 (0, 0))) (h1 : -1000000000 < lo) (h2 : lo < 1000000000) (hs : hi * 1000000000 + lo = s) :
    Calls Tryz.prog 135 #[.pointer (some ⟨g, 0, none⟩)] w fun e w' => e = .returned (.tuple #[.int .i64 (fitS s).1, .int .i64 (fitS s).2]) ∧ Below w.heap.size w w' := by
  have hcc := blk_cells hc
  have hcl := blk_lt hc
  have hcs : 1000000 < hi ∨ hi ≤ 1000000 ∧ (hi < -1000000 ∨ -1000000 ≤ hi) := by omega
  generalize hfs : fitS s = r
  rcases hcs with h' | ⟨h', h''⟩
  · have HR : Hid (r = (0, 2)) := Lib.hid (by rw [← hfs]; unfold fitS fitsB; rw [if_neg (by simp; omega)])
    clear hfs hs
    go_enter Tryz.func135, Tryz.ntmps135
    go_wp2_with fail
    go_ret2
    rw [HR.out]
    exact ⟨rfl, Below.refl _ _⟩
  · rcases h'' with h'' | h''
    · have HR : Hid (r = (0, 2)) := Lib.hid (by rw [← hfs]; unfold fitS fitsB; rw [if_neg (by simp; omega)])
      clear hfs hs
      go_enter Tryz.func135, Tryz.ntmps135
      go_wp2_with fail
      go_ret2
      rw [HR.out]
      exact ⟨rfl, Below.refl _ _⟩
    · have HS := Lib.hid hs
      have HFS := Lib.hid hfs
      have HW : Hid (I64 (hi * 1000000000 + lo)) := Lib.hid (by unfold I64 Lit.wf; simp [IntKind.min, IntKind.max, IntKind.bits, IntKind.signed]; omega)
      have HZ := Lib.hid (blk_new w.drew (.cells #[.int .i64 (hi * 1000000000 + lo)] 3))
      have HB := Lib.hid (Below.alloc (Below.drew (Below.refl w.heap.size w)) (Nat.le_refl _) (.cells #[.int .i64 (hi * 1000000000 + lo)] 3))
      clear hfs hs
      go_enter Tryz.func135, Tryz.ntmps135
      go_wp2_with fail
      go_quiet (fail)
      have HZX := Lib.hid (fun n => (blk_new (w.drewN n) (.cells #[.int .i64 (hi * 1000000000 + lo)] 3) : ((w.drewN n).alloc (.cells #[.int .i64 (hi * 1000000000 + lo)] 3)).heap[w.heap.size]? = _))
      have HBX := Lib.hid (fun n => Below.alloc (below_drewN (Below.refl w.heap.size w) n) (Nat.le_refl _) (.cells #[.int .i64 (hi * 1000000000 + lo)] 3))
      clear hcc hcl HZ HB
      cases hfv : fitsB (hi * 1000000000 + lo)
      · have HR : Hid (r = (0, 2)) := Lib.hid (by rw [← HFS.out, ← HS.out]; unfold fitS; rw [hfv]; rfl)
        go_wp2_with fail
        refine (mfits_lo (hi * 1000000000 + lo) w.heap.size _ (HZX.out _) HW.out hfv).mono ?_
        rintro en w6 ⟨rfl, hb⟩
        go_wp2_with fail
        go_ret2
        rw [HR.out]
        exact ⟨rfl, belows_then (HBX.out _) (HBX.out _).size hb⟩
      · have HR : Hid (r = (hi * 1000000000 + lo, 0)) := Lib.hid (by rw [← HFS.out, ← HS.out]; unfold fitS; rw [hfv]; rfl)
        go_wp2_with fail
        refine (mfits_lo (hi * 1000000000 + lo) w.heap.size _ (HZX.out _) HW.out hfv).mono ?_
        rintro en w6 ⟨rfl, hb⟩
        go_wp2_with fail
        go_ret2
        rw [HR.out]
        exact ⟨rfl, belows_then (HBX.out _) (HBX.out _).size hb⟩

def sumI : List Int → Int
  | [] => 0
  | x :: r => x + sumI r
theorem sumI_app : ∀ (a b : List Int), sumI (a ++ b) = sumI a + sumI b
  | [], b => by simp [sumI]
  | x :: r, b => by simp only [List.cons_append, sumI, sumI_app r b]; omega
theorem sumI_succ (l : List Int) (n : Nat) (hn : n < l.length) : sumI (l.take (n + 1)) = sumI (l.take n) + l[n] := by
  rw [List.take_succ_eq_append_getElem hn, sumI_app]; simp [sumI]
def addM (l : List Int) : Int × Int := if l.all fitsB then fitS (sumI l) else (0, 2)
theorem mfitsl_is (a : Option Addr) (cap : Nat) (l : List Int) (w : World) {F : Nat → Prop} (hl : l.length ≤ 140737488351232) (hs : Sl tInt w F a l) {b : Bool} (hb : l.all fitsB = b) :
    Calls Tryz.prog 127 #[.slice a l.length cap] w fun e w' => e = .returned (.bool b) ∧ Below w.heap.size w w' := by
  have := mfits_any a cap l w hl hs
  rw [hb] at this
  exact this.mono fun e w' ⟨h1, h2⟩ => ⟨h1, by rw [h2]; exact Below.refl _ _⟩

set_option maxHeartbeats 4000000 in
set_option maxRecDepth 100000 in
theorem madd_any (l : List Int) (a : Option Addr) (cap : Nat) (w : World) {F : Nat → Prop} (hs : Sl tInt w F a l) (hl : l.length ≤ 100000) :
    Calls Tryz.prog 92 #[.slice a l.length cap] w fun e w' => e = .returned (.tuple #[.int .i64 (addM l).1, .int .i64 (addM l).2]) ∧ Below w.heap.size w w' := by
  have HS := Lib.hid hs
  clear hs
  generalize hres : addM l = res
  have HRES := Lib.hid hres
  clear hres
  cases hall : l.all fitsB
  · have HR : Hid (res = (0, 2)) := Lib.hid (by rw [← HRES.out]; unfold addM; rw [hall]; rfl)
    have HALL := Lib.hid hall
    clear hall
    go_enter Tryz.func92, Tryz.ntmps92
    go_wp2_with fail
    refine (mfitsl_is a cap l _ (by omega) HS.out HALL.out).mono ?_
    rintro en w2 ⟨rfl, hb⟩
    go_wp2_with fail
    go_ret2
    rw [HR.out]
    exact ⟨rfl, hb⟩
  · have HR : Hid (res = fitS (sumI l)) := Lib.hid (by rw [← HRES.out]; unfold addM; rw [hall]; rfl)
    have HALL := Lib.hid hall
    clear hall
    go_enter Tryz.func92, Tryz.ntmps92
    go_wp2_with fail
    refine (mfitsl_is a cap l _ (by omega) HS.out HALL.out).mono ?_
    rintro en w2 ⟨rfl, hb⟩
    have HB2 := Lib.hid hb
    have HZ := Lib.hid (blk_new w2 (.cells #[.int .i64 0, .int .i64 0] 209))
    have HB3 := Lib.hid (hb.alloc hb.size (.cells #[.int .i64 0, .int .i64 0] 209))
    clear hb
    go_wp2_with fail
    go_loopw [12] (fun vi wr => ∃ (n : Nat) (hi lo : Int), n ≤ l.length ∧ vi = .int .i64 n ∧ wr.heap[w2.heap.size]? = some (.cells #[.int .i64 hi, .int .i64 lo] 209 (0, 0)) ∧ Hid (hi * 1000000000 + lo = sumI (l.take n)) ∧ -1000000000 < lo ∧ lo < 1000000000 ∧ -((n : Int) * 1000001) ≤ hi ∧ hi ≤ (n : Int) * 1000001 ∧ Below w2.heap.size w2 wr) (fun vi _ => l.length - (intOf vi).toNat)
    case atStart => exact ⟨0, 0, 0, Nat.zero_le _, rfl, HZ.out, Lib.hid rfl, by omega, by omega, by omega, by omega, (Below.refl _ _).alloc (Nat.le_refl _) _⟩
    case round =>
      obtain ⟨n, hi, lo, hn, rfl, hz, hsum, l1, l2, b1, b2, hb⟩ := hrel
      have HZR := Lib.hid hz
      have HBR := Lib.hid hb
      clear hz hb
      by_cases hlt : n < l.length
      · obtain ⟨ad, rfl, hadl, hc0⟩ := int_at (Sl.keep (fun k hk _ => HBR.out.block k hk) (Sl.keep (fun k hk _ => HB2.out.block k hk) HS.out)) n hlt
        have hfit : fitsB l[n] = true := by
          have := HALL.out
          rw [List.all_eq_true] at this
          exact this _ (List.getElem_mem hlt)
        have hfa : -1000000000000000 ≤ l[n] ∧ l[n] ≤ 1000000000000000 := by simpa [fitsB] using hfit
        obtain ⟨fa1, fa2⟩ := hfa
        have HN : Hid (hi * 1000000000 + lo + l[n] = sumI (l.take (n + 1))) := Lib.hid (by rw [sumI_succ l n hlt, hsum.out])
        have hnb : (n : Int) * 1000001 ≤ 1000000000000 := by omega
        clear hfit
        go_wp2_with fail
        refine (take_any hi lo l[n] ((n : Int) * 1000001) HZR.out l1 l2 b1 b2 hnb fa1 fa2).mono ?_
        rintro en w4 ⟨rfl, ⟨hi2, lo2, hz, hs2, l3, l4, b3, b4⟩, hb⟩
        have HZ4 := Lib.hid hz
        have HS4 := Lib.hid (hs2.trans HN.out)
        have HB4 := Lib.hid (But.below ((But.of_below HBR.out (· = w2.heap.size)).trans hb) (fun k hk e => by omega))
        clear hz hs2 hb hc0 hadl
        go_wp2_with fail
        go_roundw
        case rel => exact ⟨n + 1, hi2, lo2, by omega, by go_num, HZ4.out, HS4, l3, l4, (by omega), (by omega), HB4.out⟩
        case measure => simp [intOf]; omega
      · have HL : Hid (hi * 1000000000 + lo = sumI l) := Lib.hid (by have := hsum.out; rwa [take_all hn hlt] at this)
        go_wp2_with fail
        refine (mtell_any hi lo (sumI l) 0 HZR.out l1 l2 HL.out).mono ?_
        rintro en w4 ⟨rfl, hb⟩
        rw [← HR.out]
        go_wp2_with fail
        go_ret2
        exact ⟨rfl, belows_then HB2.out HB2.out.size (belows_then HBR.out HBR.out.size hb)⟩

theorem int_one (w : World) (F : Nat → Prop) (c : List Value) (x : Int) (h : tInt.R w F c x) : ∀ u ∈ c, u.oneCell' = true := by
  obtain ⟨rfl, _⟩ := h
  simp [Value.oneCell']
theorem int_free (w : World) (F G : Nat → Prop) (c : List Value) (x : Int) (h : tInt.R w F c x) : tInt.R w G c x := h
theorem sl_oneI {w : World} {F : Nat → Prop} {b : Nat} {x : Int} (hb : w.heap[b]? = some (.cells #[.int .i64 x] 3 (0, 0))) (hF : F b) (hx : I64 x) : Sl tInt w F (some ⟨b, 0, none⟩) [x] := by
  intro i y hi
  cases i with
  | succ i => simp at hi
  | zero =>
    simp at hi
    subst hi
    refine ⟨_, [.int .i64 x], rfl, hF, (Array.getElem?_eq_some_iff.1 hb).1, fun k u hu => ?_, rfl, hx⟩
    rw [Nat.zero_mul, Go.Addr.add_add, Nat.zero_add]
    have : (⟨b, 0, none⟩ : Addr).add k = ⟨b, k, none⟩ := by unfold Addr.add; split <;> simp_all
    rw [this, cell_of_row w b k _ 3 (0, 0) hb]
    simpa using hu

end Go.Proofs.YtbgkladgeijgdaaGreat


/- money: size, signed, Scale. -/
set_option linter.unusedVariables false
set_option linter.unusedSimpArgs false
namespace Go.Proofs.YtbgkladgeijgdaaGreat
open Go.RowKit Go.Maps Go.Deep

theorem size_any (a : Int) (h1 : -1000000000000000 ≤ a) (h2 : a ≤ 1000000000000000) (w : World) : Calls Tryz.prog 131 #[.int .i64 a] w fun e w' => e = .returned (.int .u64 (a.natAbs : Int)) ∧ w' = w := by
  have hc : a < 0 ∨ ¬ a < 0 := by omega
  rcases hc with h | h
  · have h3 : IntKind.u64.wrap (-a) = (a.natAbs : Int) := by rw [IntKind.wrap_u64]; omega
    have h4 : wrap64 (-a) = -a := by unfold wrap64; omega
    have HE := Lib.hid h3
    have HF := Lib.hid h4
    clear h3 h4
    go_enter Tryz.func131, Tryz.ntmps131
    go_wp2_with fail
    go_ret
    exact ⟨congrArg (fun x => Ending.returned (Value.int .u64 x)) (show -a = (a.natAbs : Int) by omega), rfl⟩
  · have h3 : IntKind.u64.wrap a = (a.natAbs : Int) := by rw [IntKind.wrap_u64]; omega
    have HE := Lib.hid h3
    clear h3
    go_enter Tryz.func131, Tryz.ntmps131
    go_wp2_with fail
    go_ret
    exact ⟨congrArg (fun x => Ending.returned (Value.int .u64 x)) (show a = (a.natAbs : Int) by omega), rfl⟩
theorem signed_any (n : Nat) (a : Int) (h1 : n ≤ 1000000000000000) (w : World) : Calls Tryz.prog 133 #[.int .u64 n, .int .i64 a] w fun e w' => e = .returned (.int .i64 (signN a n)) ∧ w' = w := by
  have h3 : wrap64 (n : Int) = n := by unfold wrap64; omega
  have h4 : wrap64 (-(n : Int)) = -(n : Int) := by unfold wrap64; omega
  have HE := Lib.hid h3
  have HF := Lib.hid h4
  clear h3 h4
  unfold signN
  by_cases h : a < 0
  · rw [if_pos h]
    go_enter Tryz.func133, Tryz.ntmps133
    go_wp2_with fail
    go_ret
    exact ⟨rfl, rfl⟩
  · rw [if_neg h]
    go_enter Tryz.func133, Tryz.ntmps133
    go_wp2_with fail
    go_ret
    exact ⟨rfl, rfl⟩

/-- Div64 as Scale asks for it -/
def DivOk (m den : Nat) : Prop := ∀ w : World, Calls Tryz.prog 132 #[.int .u64 ((m / 18446744073709551616 : Nat) : Int), .int .u64 ((m % 18446744073709551616 : Nat) : Int), .int .u64 (den : Int)] w fun e w' => e = .returned (.tuple #[.int .u64 ((m / den : Nat) : Int), .int .u64 ((m % den : Nat) : Int)]) ∧ Below w.heap.size w w'
theorem divOk_mil (m : Nat) (h : m < 1000000 * 18446744073709551616) : DivOk m 1000000 := fun w => by
  have := div64_mil (m / 18446744073709551616) (m % 18446744073709551616) (by omega) (by omega) w
  rwa [Nat.div_add_mod'] at this
theorem divOk_low (m den : Nat) (h : m < 18446744073709551616) (h0 : 0 < den) (h1 : den < 18446744073709551616) : DivOk m den := fun w => by
  rw [Nat.div_eq_of_lt h, Nat.mod_eq_of_lt h]
  exact div64_low m den h0 h h1 w
set_option maxHeartbeats 4000000 in
set_option maxRecDepth 100000 in
theorem scale_walk {a num den : Int} (ha : fitsB a = true) (hn : 0 ≤ num) (hn1 : num ≤ 1000000000) (hd : 1 ≤ den) (hd1 : den ≤ 1000000000) (hk : DivOk (a.natAbs * num.toNat) den.toNat) (hlow : a.natAbs * num.toNat / 18446744073709551616 < den.toNat) (w : World) :
    Calls Tryz.prog 90 #[.int .i64 a, .int .i64 num, .int .i64 den] w fun e w' => e = .returned (.tuple #[.int .i64 (scaleT a num den).1, .int .i64 (scaleT a num den).2]) ∧ Below w.heap.size w w' := by
  have hab : -1000000000000000 ≤ a ∧ a ≤ 1000000000000000 := by simpa [fitsB] using ha
  obtain ⟨N, hN⟩ : ∃ N : Nat, N = num.toNat := ⟨_, rfl⟩
  obtain ⟨D, hD⟩ : ∃ D : Nat, D = den.toNat := ⟨_, rfl⟩
  obtain rfl : num = (N : Int) := by omega
  obtain rfl : den = (D : Int) := by omega
  rw [Int.toNat_natCast, Int.toNat_natCast] at hk hlow
  obtain ⟨m, hm⟩ : ∃ m, m = a.natAbs * N := ⟨_, rfl⟩
  rw [← hm] at hk hlow
  have hge : ¬ (D : Int) ≤ ((m / 18446744073709551616 : Nat) : Int) := by omega
  obtain ⟨n, hnq⟩ : ∃ n, n = m / D := ⟨_, rfl⟩
  obtain ⟨t, htq⟩ : ∃ t, t = m % D := ⟨_, rfl⟩
  have htD : t < D := by rw [htq]; exact Nat.mod_lt _ (by omega)
  have hnb : n < 18446744073709551616 := by
    rw [hnq]
    exact Nat.div_lt_of_lt_mul (by omega)
  unfold DivOk at hk
  rw [← hnq, ← htq] at hk
  obtain ⟨hi, hhi⟩ : ∃ x, x = m / 18446744073709551616 := ⟨_, rfl⟩
  obtain ⟨lo, hlo⟩ : ∃ x, x = m % 18446744073709551616 := ⟨_, rfl⟩
  rw [← hhi] at hge hlow
  rw [← hhi, ← hlo] at hk
  have HK := Lib.hid hk
  have HM := Lib.hid (fun w => by have := mul64_is a.natAbs N (by omega) (by omega) w; rw [← hm, ← hhi, ← hlo] at this; exact this)
  have HF := Lib.hid (mfits_lo a w.heap.size)
  have HSZ := Lib.hid (size_any a hab.1 hab.2)
  have HA := Lib.hid ha
  have HAW : Hid (I64 a) := Lib.hid (by unfold I64 Lit.wf; simp [IntKind.min, IntKind.max, IntKind.bits, IntKind.signed]; omega)
  have HZ := Lib.hid (blk_new w (.cells #[.int .i64 a] 3))
  have HB := Lib.hid ((Below.refl w.heap.size w).alloc (Nat.le_refl _) (.cells #[.int .i64 a] 3))
  have HHM := Lib.hid hm
  have HT : Hid (scaleT a N D = if 1000000000000000 < rndN n t D then (0, 2) else (signN a (rndN n t D), 0)) := Lib.hid (by
    unfold scaleT scaleN
    rw [Int.toNat_natCast, Int.toNat_natCast, ← hm, ← hnq, ← htq])
  obtain ⟨k, hkk⟩ : ∃ k : Nat, min (n : Int) 2000000000000000 = (k : Int) := ⟨min n 2000000000000000, by omega⟩
  have HKK := Lib.hid hkk
  have HKN : Hid ((n ≤ 2000000000000000 ∧ k = n) ∨ (2000000000000000 < n ∧ k = 2000000000000000)) := Lib.hid (by omega)
  have HNB := Lib.hid hnb
  have HNQ := Lib.hid hnq
  have HTQ := Lib.hid htq
  clear hk hm ha hnb hhi hlo hnq htq hN hD hlow hkk
  have HW : Hid (IntKind.u64.wrap (N : Int) = N) := Lib.hid (by rw [IntKind.wrap_u64]; omega)
  have HW2 : Hid (IntKind.u64.wrap (D : Int) = D) := Lib.hid (by rw [IntKind.wrap_u64]; omega)
  go_enter Tryz.func90, Tryz.ntmps90
  go_wp2_with fail
  refine (HF.out _ HZ.out HAW.out HA.out).mono ?_
  rintro en w1 ⟨rfl, hb⟩
  have HB1 := Lib.hid (belows_then HB.out HB.out.size hb)
  clear hb HB HZ HF
  go_wp2_with fail
  refine (HSZ.out _).mono ?_
  rintro en w2 ⟨rfl, rfl⟩
  go_wp2_with fail
  refine (HM.out _).mono ?_
  rintro en w2 ⟨rfl, rfl⟩
  go_wp2_with fail
  refine (HK.out _).mono ?_
  rintro en w3 ⟨rfl, hb⟩
  have HB3 := Lib.hid (belows_then HB1.out HB1.out.size hb)
  clear hb HB1
  have hkk := HKK.out
  have hkb : (k : Int) ≤ 2000000000000000 := by have := HKN.out; omega
  by_cases h1 : (D : Int) < 2 * (t : Int)
  · skip
    have HR : Hid (n ≤ 2000000000000000 → rndN n t D = n + 1) := Lib.hid (fun hn2 => by have := HKN.out; unfold rndN; rw [if_pos (by omega)])
    have HR2 : Hid (n ≤ rndN n t D) := Lib.hid (by unfold rndN; split <;> omega)
    by_cases h4 : (1000000000000000 : Int) < ((k : Int) + 1)
    · go_wp2_with fail
      go_ret2
      have hR : 1000000000000000 < rndN n t D := by
        have h5 := HKN.out; have h6 := HR.out; have h7 := HR2.out
        rcases h5 with ⟨h5, h8⟩ | ⟨h5, h8⟩
        · rw [h6 h5]; omega
        · omega
      rw [HT.out, if_pos hR]
      exact ⟨rfl, HB3.out⟩
    · obtain ⟨k1, hk1⟩ : ∃ k1 : Nat, (k : Int) + 1 = (k1 : Int) := ⟨k + 1, by omega⟩
      have h5 : ¬ (1000000000000000 : Int) < (k1 : Int) := by omega
      have HSG := Lib.hid (fun w => signed_any k1 a (by omega) w)
      have hR : rndN n t D = k1 := by
        have h5 := HKN.out; have h6 := HR.out
        rcases h5 with ⟨h5, h8⟩ | ⟨h5, h8⟩
        · rw [h6 h5]; omega
        · omega
      have HRR := Lib.hid hR
      have HH4 : Hid (¬ 1000000000000000 < k1) := Lib.hid (by omega)
      clear hR h4
      go_wp2_with fail
      refine (HSG.out _).mono ?_
      rintro en w4 ⟨rfl, rfl⟩
      go_wp2_with fail
      go_ret2
      rw [HT.out, HRR.out, if_neg HH4.out]
      exact ⟨rfl, HB3.out⟩
  · by_cases h2 : 2 * (t : Int) = (D : Int)
    · by_cases h3 : (k : Int).tmod 2 = 1
      · have h3' : k % 2 = 1 := by
          have h7 := h3
          rw [Int.tmod_eq_emod_of_nonneg (by omega)] at h7
          omega
        have HR : Hid (n ≤ 2000000000000000 → rndN n t D = n + 1) := Lib.hid (fun hn2 => by have := HKN.out; unfold rndN; rw [if_pos (by omega)])
        have HR2 : Hid (n ≤ rndN n t D) := Lib.hid (by unfold rndN; split <;> omega)
        by_cases h4 : (1000000000000000 : Int) < ((k : Int) + 1)
        · go_wp2_with fail
          go_ret2
          have hR : 1000000000000000 < rndN n t D := by
            have h5 := HKN.out; have h6 := HR.out; have h7 := HR2.out
            rcases h5 with ⟨h5, h8⟩ | ⟨h5, h8⟩
            · rw [h6 h5]; omega
            · omega
          rw [HT.out, if_pos hR]
          exact ⟨rfl, HB3.out⟩
        · obtain ⟨k1, hk1⟩ : ∃ k1 : Nat, (k : Int) + 1 = (k1 : Int) := ⟨k + 1, by omega⟩
          have h5 : ¬ (1000000000000000 : Int) < (k1 : Int) := by omega
          have HSG := Lib.hid (fun w => signed_any k1 a (by omega) w)
          have hR : rndN n t D = k1 := by
            have h5 := HKN.out; have h6 := HR.out
            rcases h5 with ⟨h5, h8⟩ | ⟨h5, h8⟩
            · rw [h6 h5]; omega
            · omega
          have HRR := Lib.hid hR
          have HH4 : Hid (¬ 1000000000000000 < k1) := Lib.hid (by omega)
          clear hR h4
          go_wp2_with fail
          refine (HSG.out _).mono ?_
          rintro en w4 ⟨rfl, rfl⟩
          go_wp2_with fail
          go_ret2
          rw [HT.out, HRR.out, if_neg HH4.out]
          exact ⟨rfl, HB3.out⟩
      · have h3' : k % 2 = 0 := by
          have h7 := h3
          rw [Int.tmod_eq_emod_of_nonneg (by omega)] at h7
          omega
        have HR : Hid (n ≤ 2000000000000000 → rndN n t D = n) := Lib.hid (fun hn2 => by have := HKN.out; unfold rndN; rw [if_neg (by omega)])
        have HR2 : Hid (n ≤ rndN n t D) := Lib.hid (by unfold rndN; split <;> omega)
        by_cases h4 : (1000000000000000 : Int) < (k : Int)
        · go_wp2_with fail
          go_ret2
          have hR : 1000000000000000 < rndN n t D := by
            have h5 := HKN.out; have h6 := HR.out; have h7 := HR2.out
            rcases h5 with ⟨h5, h8⟩ | ⟨h5, h8⟩
            · rw [h6 h5]; omega
            · omega
          rw [HT.out, if_pos hR]
          exact ⟨rfl, HB3.out⟩
        · have HSG := Lib.hid (fun w => signed_any k a (by omega) w)
          have hR : rndN n t D = k := by
            have h5 := HKN.out; have h6 := HR.out
            rcases h5 with ⟨h5, h8⟩ | ⟨h5, h8⟩
            · rw [h6 h5]; omega
            · omega
          have HRR := Lib.hid hR
          have HH4 : Hid (¬ 1000000000000000 < k) := Lib.hid (by omega)
          clear hR
          go_wp2_with fail
          refine (HSG.out _).mono ?_
          rintro en w4 ⟨rfl, rfl⟩
          go_wp2_with fail
          go_ret2
          rw [HT.out, HRR.out, if_neg HH4.out]
          exact ⟨rfl, HB3.out⟩
    · skip
      have HR : Hid (n ≤ 2000000000000000 → rndN n t D = n) := Lib.hid (fun hn2 => by have := HKN.out; unfold rndN; rw [if_neg (by omega)])
      have HR2 : Hid (n ≤ rndN n t D) := Lib.hid (by unfold rndN; split <;> omega)
      by_cases h4 : (1000000000000000 : Int) < (k : Int)
      · go_wp2_with fail
        go_ret2
        have hR : 1000000000000000 < rndN n t D := by
          have h5 := HKN.out; have h6 := HR.out; have h7 := HR2.out
          rcases h5 with ⟨h5, h8⟩ | ⟨h5, h8⟩
          · rw [h6 h5]; omega
          · omega
        rw [HT.out, if_pos hR]
        exact ⟨rfl, HB3.out⟩
      · have HSG := Lib.hid (fun w => signed_any k a (by omega) w)
        have hR : rndN n t D = k := by
          have h5 := HKN.out; have h6 := HR.out
          rcases h5 with ⟨h5, h8⟩ | ⟨h5, h8⟩
          · rw [h6 h5]; omega
          · omega
        have HRR := Lib.hid hR
        have HH4 : Hid (¬ 1000000000000000 < k) := Lib.hid (by omega)
        clear hR
        go_wp2_with fail
        refine (HSG.out _).mono ?_
        rintro en w4 ⟨rfl, rfl⟩
        go_wp2_with fail
        go_ret2
        rw [HT.out, HRR.out, if_neg HH4.out]
        exact ⟨rfl, HB3.out⟩
theorem scale_mil {a num : Int} (ha : fitsB a = true) (hn : 0 ≤ num) (hn1 : num ≤ 1000000000) (w : World) :
    Calls Tryz.prog 90 #[.int .i64 a, .int .i64 num, .int .i64 1000000] w fun e w' => e = .returned (.tuple #[.int .i64 (scaleT a num 1000000).1, .int .i64 (scaleT a num 1000000).2]) ∧ Below w.heap.size w w' := by
  have hab : -1000000000000000 ≤ a ∧ a ≤ 1000000000000000 := by simpa [fitsB] using ha
  have hm : a.natAbs * num.toNat ≤ 1000000000000000 * 1000000000 := Nat.mul_le_mul (by omega) (by omega)
  exact scale_walk ha hn hn1 (by decide) (by decide) (divOk_mil _ (by omega)) (by show _ < 1000000; omega) w
theorem scale_tenK {a num : Int} (ha : fitsB a = true) (hn : 0 ≤ num) (hn1 : num ≤ 10000) (w : World) :
    Calls Tryz.prog 90 #[.int .i64 a, .int .i64 num, .int .i64 10000] w fun e w' => e = .returned (.tuple #[.int .i64 (scaleT a num 10000).1, .int .i64 (scaleT a num 10000).2]) ∧ Below w.heap.size w w' := by
  have hab : -1000000000000000 ≤ a ∧ a ≤ 1000000000000000 := by simpa [fitsB] using ha
  have hm : a.natAbs * num.toNat ≤ 1000000000000000 * 10000 := Nat.mul_le_mul (by omega) (by omega)
  exact scale_walk ha hn (by omega) (by decide) (by decide) (divOk_low _ 10000 (by omega) (by decide) (by decide)) (by show _ < 10000; omega) w
end Go.Proofs.YtbgkladgeijgdaaGreat
