/- money: take, tell, Add; trial.Sum. -/
import Derived.Test.YtgggpaacagbmcaaGreatX12GroupTells
import Derived.Test.YtgggpaacagbmcaaGreatX09GroupTells
import Derived.Test.YtgggpaacagbmcaaGreatX11GroupTells
import Derived.Deep.RegionLaw
set_option linter.unusedVariables false
set_option linter.unusedSimpArgs false
namespace Go.Proofs.YtgggpaacagbmcaaGreat
open Go.RowKit Go.Maps

theorem quo_rem (a : Int) (h1 : -1000000000000000 ≤ a) (h2 : a ≤ 1000000000000000) : ∃ q r : Int, a.tdiv 1000000000 = q ∧ a.tmod 1000000000 = r ∧ a = q * 1000000000 + r ∧ -1000000000 < r ∧ r < 1000000000 ∧ -1000000 ≤ q ∧ q ≤ 1000000 := by
  refine ⟨_, _, rfl, rfl, ?_⟩
  rcases Int.le_total 0 a with h | h
  · rw [Int.tdiv_eq_ediv_of_nonneg h, Int.tmod_eq_emod_of_nonneg h]
    omega
  · obtain ⟨b, rfl⟩ : ∃ b, a = -b := ⟨-a, by omega⟩
    rw [Int.neg_tdiv, Int.neg_tmod, Int.tdiv_eq_ediv_of_nonneg (by omega), Int.tmod_eq_emod_of_nonneg (by omega)]
    omega
theorem quo_rem2 (a : Int) (h1 : -2000000000 < a) (h2 : a < 2000000000) : ∃ q r : Int, a.tdiv 1000000000 = q ∧ a.tmod 1000000000 = r ∧ a = q * 1000000000 + r ∧ -1000000000 < r ∧ r < 1000000000 ∧ -1 ≤ q ∧ q ≤ 1 := by
  refine ⟨_, _, rfl, rfl, ?_⟩
  rcases Int.le_total 0 a with h | h
  · rw [Int.tdiv_eq_ediv_of_nonneg h, Int.tmod_eq_emod_of_nonneg h]
    omega
  · obtain ⟨b, rfl⟩ : ∃ b, a = -b := ⟨-a, by omega⟩
    rw [Int.neg_tdiv, Int.neg_tmod, Int.tdiv_eq_ediv_of_nonneg (by omega), Int.tmod_eq_emod_of_nonneg (by omega)]
    omega

def TakePost (w : World) (g : Nat) (s h : Int) (e : Ending) (w' : World) : Prop :=
  e = .returned (.tuple #[]) ∧ (∃ hi lo : Int, w'.heap[g]? = some (.cells #[.int .i64 hi, .int .i64 lo] 217 (0, 0)) ∧ hi * 1000000000 + lo = s ∧ -1000000000 < lo ∧ lo < 1000000000 ∧ -h ≤ hi ∧ hi ≤ h) ∧ But (· = g) w w'

set_option maxHeartbeats 4000000 in
set_option maxRecDepth 100000 in
theorem take_any {w : World} {g : Nat} (hi lo a h : Int) (hc : w.heap[g]? = some (.cells #[.int .i64 hi, .int .i64 lo] 217 (0, 0))) (h1 : -1000000000 < lo) (h2 : lo < 1000000000) (h3 : -h ≤ hi) (h4 : hi ≤ h) (h5 : h ≤ 1000000000000) (a1 : -1000000000000000 ≤ a) (a2 : a ≤ 1000000000000000) :
    Calls Tryz.prog 141 #[.pointer (some ⟨g, 0, none⟩), .int .i64 a] w (TakePost w g (hi * 1000000000 + lo + a) (h + 1000001)) := by
  obtain ⟨q, r, hq, hr, e1, r1, r2, q1, q2⟩ := quo_rem a a1 a2
  obtain ⟨q', r', hq', hr', e2, r1', r2', q1', q2'⟩ := quo_rem2 (lo + r) (by omega) (by omega)
  have HE : Hid ((hi + q + q') * 1000000000 + r' = hi * 1000000000 + lo + a) := Lib.hid (by omega)
  have H := Lib.hid hc
  have hcc := blk_cells hc
  have hcl := blk_lt hc
  have hcf := blk_frz hc
  clear hc e1 e2
  go_enter Tryz.func141, Tryz.ntmps141
  go_wp2_with fail
  refine abs_world (S := fun wx => wx.heap[g]? = some (.cells #[.int .i64 (hi + q), .int .i64 (lo + r)] 217 (0, 0)) ∧ But (· = g) w wx) ?_ ⟨?_, ?_⟩
  · rintro wx ⟨hx, hb⟩
    have HX := Lib.hid hx
    have HB := Lib.hid hb
    clear hcc hcl hcf
    have hcc := blk_cells hx
    have hcl := blk_lt hx
    have hcf := blk_frz hx
    clear hx hb
    refine still_tail 12 (by kernel_rfl) (by kernel_rfl) ?_
    simp only [List.take_succ_cons, List.take_zero, List.drop_succ_cons, List.drop_zero]
    repeat still_step
    try refine wpStill_nil ?_
    go_wp2_with fail
    go_end0
    refine ⟨rfl, ⟨hi + q + q', r', ?_, HE.out, r1', r2', by omega, by omega⟩, ?_⟩
    · have := blk_set (blk_set HX.out 0 (.int .i64 (hi + q + q'))) 1 (.int .i64 r')
      simp at this
      exact this
    · exact ((HB.out.setCell (p := ⟨g, 0, none⟩) (.inl rfl) _).setCell (p := ⟨g, 1, none⟩) (.inl rfl) _).drew
  · have := blk_set (blk_set H.out 0 (.int .i64 (hi + q))) 1 (.int .i64 (lo + r))
    simpa using this
  · exact ((But.refl (· = g) w).setCell (p := ⟨g, 0, none⟩) (.inl rfl) _).setCell (p := ⟨g, 1, none⟩) (.inl rfl) _

def fitS (s : Int) : Int × Int := if fitsB s then (s, 0) else (0, 2)
set_option maxHeartbeats 4000000 in
set_option maxRecDepth 100000 in
theorem mtell_any {w : World} {g : Nat} (hi lo s h : Int) (hc : w.heap[g]? = some (.cells #[.int .i64 hi, .int .i64 lo] 217 (0, 0))) (h1 : -1000000000 < lo) (h2 : lo < 1000000000) (hs : hi * 1000000000 + lo = s) :
    Calls Tryz.prog 142 #[.pointer (some ⟨g, 0, none⟩)] w fun e w' => e = .returned (.tuple #[.int .i64 (fitS s).1, .int .i64 (fitS s).2]) ∧ Below w.heap.size w w' := by
  have hcc := blk_cells hc
  have hcl := blk_lt hc
  have hcs : 1000000 < hi ∨ hi ≤ 1000000 ∧ (hi < -1000000 ∨ -1000000 ≤ hi) := by omega
  generalize hfs : fitS s = r
  rcases hcs with h' | ⟨h', h''⟩
  · have HR : Hid (r = (0, 2)) := Lib.hid (by rw [← hfs]; unfold fitS fitsB; rw [if_neg (by simp; omega)])
    clear hfs hs
    go_enter Tryz.func142, Tryz.ntmps142
    go_wp2_with fail
    go_ret2
    rw [HR.out]
    exact ⟨rfl, Below.refl _ _⟩
  · rcases h'' with h'' | h''
    · have HR : Hid (r = (0, 2)) := Lib.hid (by rw [← hfs]; unfold fitS fitsB; rw [if_neg (by simp; omega)])
      clear hfs hs
      go_enter Tryz.func142, Tryz.ntmps142
      go_wp2_with fail
      go_ret2
      rw [HR.out]
      exact ⟨rfl, Below.refl _ _⟩
    · have HS := Lib.hid hs
      have HFS := Lib.hid hfs
      have HW : Hid (I64 (hi * 1000000000 + lo)) := Lib.hid (by unfold I64 Lit.wf; simp [IntKind.min, IntKind.max, IntKind.bits, IntKind.signed]; omega)
      have HZ := Lib.hid (blk_new w.drew (.cells #[.int .i64 (hi * 1000000000 + lo)] 3))
      have HB := Lib.hid (Below.alloc (Below.drew (Below.refl w.heap.size w)) (Nat.le_refl _) (.cells #[.int .i64 (hi * 1000000000 + lo)] 3))
      clear hfs hs
      go_enter Tryz.func142, Tryz.ntmps142
      go_wp2_with fail
      go_quiet (fail)
      have HZX := Lib.hid (fun n => (blk_new (w.drewN n) (.cells #[.int .i64 (hi * 1000000000 + lo)] 3) : ((w.drewN n).alloc (.cells #[.int .i64 (hi * 1000000000 + lo)] 3)).heap[w.heap.size]? = _))
      have HBX := Lib.hid (fun n => Below.alloc (below_drewN (Below.refl w.heap.size w) n) (Nat.le_refl _) (.cells #[.int .i64 (hi * 1000000000 + lo)] 3))
      clear hcc hcl HZ HB
      cases hfv : fitsB (hi * 1000000000 + lo)
      · have HR : Hid (r = (0, 2)) := Lib.hid (by rw [← HFS.out, ← HS.out]; unfold fitS; rw [hfv]; rfl)
        go_wp2_with fail
        refine (mfits_lo (hi * 1000000000 + lo) w.heap.size _ (HZX.out _) HW.out hfv).mono ?_
        rintro en w6 ⟨rfl, hb⟩
        go_wp2_with fail
        go_ret2
        rw [HR.out]
        exact ⟨rfl, belows_then (HBX.out _) (HBX.out _).size hb⟩
      · have HR : Hid (r = (hi * 1000000000 + lo, 0)) := Lib.hid (by rw [← HFS.out, ← HS.out]; unfold fitS; rw [hfv]; rfl)
        go_wp2_with fail
        refine (mfits_lo (hi * 1000000000 + lo) w.heap.size _ (HZX.out _) HW.out hfv).mono ?_
        rintro en w6 ⟨rfl, hb⟩
        go_wp2_with fail
        go_ret2
        rw [HR.out]
        exact ⟨rfl, belows_then (HBX.out _) (HBX.out _).size hb⟩

def sumI : List Int → Int
  | [] => 0
  | x :: r => x + sumI r
theorem sumI_app : ∀ (a b : List Int), sumI (a ++ b) = sumI a + sumI b
  | [], b => by simp [sumI]
  | x :: r, b => by simp only [List.cons_append, sumI, sumI_app r b]; omega
theorem sumI_succ (l : List Int) (n : Nat) (hn : n < l.length) : sumI (l.take (n + 1)) = sumI (l.take n) + l[n] := by
  rw [List.take_succ_eq_append_getElem hn, sumI_app]; simp [sumI]
def addM (l : List Int) : Int × Int := if l.all fitsB then fitS (sumI l) else (0, 2)
theorem mfitsl_is (a : Option Addr) (cap : Nat) (l : List Int) (w : World) {F : Nat → Prop} (hl : l.length ≤ 140737488351232) (hs : Sl tInt w F a l) {b : Bool} (hb : l.all fitsB = b) :
    Calls Tryz.prog 83 #[.slice a l.length cap] w fun e w' => e = .returned (.bool b) ∧ Below w.heap.size w w' := by
  have := mfits_any a cap l w hl hs
  rw [hb] at this
  exact this.mono fun e w' ⟨h1, h2⟩ => ⟨h1, by rw [h2]; exact Below.refl _ _⟩

set_option maxHeartbeats 4000000 in
set_option maxRecDepth 100000 in
theorem madd_any (l : List Int) (a : Option Addr) (cap : Nat) (w : World) {F : Nat → Prop} (hs : Sl tInt w F a l) (hl : l.length ≤ 100000) :
    Calls Tryz.prog 97 #[.slice a l.length cap] w fun e w' => e = .returned (.tuple #[.int .i64 (addM l).1, .int .i64 (addM l).2]) ∧ Below w.heap.size w w' := by
  have HS := Lib.hid hs
  clear hs
  generalize hres : addM l = res
  have HRES := Lib.hid hres
  clear hres
  cases hall : l.all fitsB
  · have HR : Hid (res = (0, 2)) := Lib.hid (by rw [← HRES.out]; unfold addM; rw [hall]; rfl)
    have HALL := Lib.hid hall
    clear hall
    go_enter Tryz.func97, Tryz.ntmps97
    go_wp2_with fail
    refine (mfitsl_is a cap l _ (by omega) HS.out HALL.out).mono ?_
    rintro en w2 ⟨rfl, hb⟩
    go_wp2_with fail
    go_ret2
    rw [HR.out]
    exact ⟨rfl, hb⟩
  · have HR : Hid (res = fitS (sumI l)) := Lib.hid (by rw [← HRES.out]; unfold addM; rw [hall]; rfl)
    have HALL := Lib.hid hall
    clear hall
    go_enter Tryz.func97, Tryz.ntmps97
    go_wp2_with fail
    refine (mfitsl_is a cap l _ (by omega) HS.out HALL.out).mono ?_
    rintro en w2 ⟨rfl, hb⟩
    have HB2 := Lib.hid hb
    have HZ := Lib.hid (blk_new w2 (.cells #[.int .i64 0, .int .i64 0] 217))
    have HB3 := Lib.hid (hb.alloc hb.size (.cells #[.int .i64 0, .int .i64 0] 217))
    clear hb
    go_wp2_with fail
    go_loopw [12] (fun vi wr => ∃ (n : Nat) (hi lo : Int), n ≤ l.length ∧ vi = .int .i64 n ∧ wr.heap[w2.heap.size]? = some (.cells #[.int .i64 hi, .int .i64 lo] 217 (0, 0)) ∧ Hid (hi * 1000000000 + lo = sumI (l.take n)) ∧ -1000000000 < lo ∧ lo < 1000000000 ∧ -((n : Int) * 1000001) ≤ hi ∧ hi ≤ (n : Int) * 1000001 ∧ Below w2.heap.size w2 wr) (fun vi _ => l.length - (intOf vi).toNat)
    case atStart => exact ⟨0, 0, 0, Nat.zero_le _, rfl, HZ.out, Lib.hid rfl, by omega, by omega, by omega, by omega, (Below.refl _ _).alloc (Nat.le_refl _) _⟩
    case round =>
      obtain ⟨n, hi, lo, hn, rfl, hz, hsum, l1, l2, b1, b2, hb⟩ := hrel
      have HZR := Lib.hid hz
      have HBR := Lib.hid hb
      clear hz hb
      by_cases hlt : n < l.length
      · obtain ⟨ad, rfl, hadl, hc0⟩ := int_at (Sl.keep (fun k hk _ => HBR.out.block k hk) (Sl.keep (fun k hk _ => HB2.out.block k hk) HS.out)) n hlt
        have hfit : fitsB l[n] = true := by
          have := HALL.out
          rw [List.all_eq_true] at this
          exact this _ (List.getElem_mem hlt)
        have hfa : -1000000000000000 ≤ l[n] ∧ l[n] ≤ 1000000000000000 := by simpa [fitsB] using hfit
        obtain ⟨fa1, fa2⟩ := hfa
        have HN : Hid (hi * 1000000000 + lo + l[n] = sumI (l.take (n + 1))) := Lib.hid (by rw [sumI_succ l n hlt, hsum.out])
        have hnb : (n : Int) * 1000001 ≤ 1000000000000 := by omega
        clear hfit
        go_wp2_with fail
        refine (take_any hi lo l[n] ((n : Int) * 1000001) HZR.out l1 l2 b1 b2 hnb fa1 fa2).mono ?_
        rintro en w4 ⟨rfl, ⟨hi2, lo2, hz, hs2, l3, l4, b3, b4⟩, hb⟩
        have HZ4 := Lib.hid hz
        have HS4 := Lib.hid (hs2.trans HN.out)
        have HB4 := Lib.hid (But.below ((But.of_below HBR.out (· = w2.heap.size)).trans hb) (fun k hk e => by omega))
        clear hz hs2 hb hc0 hadl
        go_wp2_with fail
        go_roundw
        case rel => exact ⟨n + 1, hi2, lo2, by omega, by go_num, HZ4.out, HS4, l3, l4, (by omega), (by omega), HB4.out⟩
        case measure => simp [intOf]; omega
      · have HL : Hid (hi * 1000000000 + lo = sumI l) := Lib.hid (by have := hsum.out; rwa [take_all hn hlt] at this)
        go_wp2_with fail
        refine (mtell_any hi lo (sumI l) 0 HZR.out l1 l2 HL.out).mono ?_
        rintro en w4 ⟨rfl, hb⟩
        rw [← HR.out]
        go_wp2_with fail
        go_ret2
        exact ⟨rfl, belows_then HB2.out HB2.out.size (belows_then HBR.out HBR.out.size hb)⟩

theorem int_one (w : World) (F : Nat → Prop) (c : List Value) (x : Int) (h : tInt.R w F c x) : ∀ u ∈ c, u.oneCell' = true := by
  obtain ⟨rfl, _⟩ := h
  simp [Value.oneCell']
theorem int_free (w : World) (F G : Nat → Prop) (c : List Value) (x : Int) (h : tInt.R w F c x) : tInt.R w G c x := h
theorem sl_oneI {w : World} {F : Nat → Prop} {b : Nat} {x : Int} (hb : w.heap[b]? = some (.cells #[.int .i64 x] 3 (0, 0))) (hF : F b) (hx : I64 x) : Sl tInt w F (some ⟨b, 0, none⟩) [x] := by
  intro i y hi
  cases i with
  | succ i => simp at hi
  | zero =>
    simp at hi
    subst hi
    refine ⟨_, [.int .i64 x], rfl, hF, (Array.getElem?_eq_some_iff.1 hb).1, fun k u hu => ?_, rfl, hx⟩
    rw [Nat.zero_mul, Go.Addr.add_add, Nat.zero_add]
    have : (⟨b, 0, none⟩ : Addr).add k = ⟨b, k, none⟩ := by unfold Addr.add; split <;> simp_all
    rw [this, cell_of_row w b k _ 3 (0, 0) hb]
    simpa using hu

end Go.Proofs.YtgggpaacagbmcaaGreat


/- Steps of regions that draw their order: an append to a list of the call's own, a store into a map. -/
set_option linter.unusedVariables false
set_option linter.unusedSimpArgs false
namespace Go.Proofs.YtgggpaacagbmcaaGreat
open Go.RowKit Go.Maps

section
variable {P : Program} {e : TypeId} {α : Type} {T : Ty P e α} {ops : Array Oper} {o : Oper} {a : Act} {w : World} {K : Act → World → Prop} {Q : Exit → Act → World → Prop} {E : Prop}
theorem step_app (hgd : o.guard = none) (s x : Operand) (t : TypeId) (ho : o.op = .call { callee := .builtin .append, args := #[s, x], argTypes := #[t, t] })
    (i : TypeInfo) (z : Value) (bytes : Nat) (ht : P.underlying t = some (.slice e)) (hi : P.info? e = some i) (hz : i.zero = some z) (hsize : i.size = T.n) (hby : i.bytes = bytes) (hzs : z.cells.size = T.n) (hsz : 0 < T.n)
    (h1c : ∀ (w : World) (F : Nat → Prop) (c : List Value) (x : α), T.R w F c x → ∀ u ∈ c, u.oneCell' = true)
    (base : Nat) (v : Value) (xs : List α) (hs : a.eval s = v) (hown : OwnL T w base v xs) (ad : Addr) (c : Nat) (ys : List α) (hx : a.eval x = .slice (some ad) ys.length c)
    (hys : Sl T w (fun k => some k ≠ v.ownBlock ∧ k < w.heap.size) (some ad) ys) (h63 : xs.length + ys.length ≤ maxLen) (hbytes : (xs.length + ys.length) * bytes ≤ 140737488355328) (hbase : base ≤ w.heap.size)
    (h : ∀ v' w', OwnL T w' base v' (xs ++ ys) → w.grownBy w' v.ownBlock → (v'.ownBlock = v.ownBlock ∨ v'.ownBlock = some w.heap.size) → K (a.put o.dst v') w') :
    if Region.wanted o (yielded ops a.tmps) = true then Oper.wp P o a w K Q else E := by
  have hw : Region.wanted o (yielded ops a.tmps) = true := by simp [Region.wanted, hgd]
  rw [if_pos hw]
  obtain ⟨css, h1, h2, h3, h4⟩ := hown
  obtain ⟨news, n2, n4, n3, n5⟩ := hys.rows
  obtain ⟨v', w', hrun, r1, r2, r3, r4⟩ := run_append_own_at (P := P) w base t o.type e i z T.n bytes ht hi hz hsize hby hzs hsz v xs.length css.flatten h1 ad ys.length c news.flatten (by rw [flat_len n3, n2]) n5 (by
    intro u hu
    obtain ⟨c', hc', hu'⟩ := List.mem_flatten.1 hu
    obtain ⟨k, hk, rfl⟩ := List.mem_iff_getElem.1 hc'
    exact h1c w _ _ _ (n4 k _ _ (List.getElem?_eq_getElem hk) (List.getElem?_eq_getElem (by omega))) u hu') h63 hbytes hbase
  unfold Oper.wp
  simp [execOp, ho, resolve, invoke, builtin, hs, hx, hrun, Result.andThen]
  exact h v' w' (OwnL.app h2 h3 h4 n2 n3 n4 r1 r2 r4) r2 r4
end
section
variable {P : Program} {t : TypeId} {κ ν : Type} [DecidableEq κ] {M : MK P t κ} {ev : ν → Value} {ops : Array Oper} {o : Oper} {a : Act} {w : World} {K : Act → World → Prop} {Q : Exit → Act → World → Prop} {E : Prop}
theorem step_update (hg : o.guard = none) (m x v : Operand) (T : TypeId) (hop : o.op = Op.mapUpdate T m x v) (e : TypeId) (ht : P.underlying T = some (.map t e)) (b : Nat) (l : List (κ × ν)) (k : κ) (y : ν)
    (hm : a.eval m = .map (some b)) (hx : a.eval x = M.ek k) (hv : a.eval v = ev y) (h : MapIs M ev w b l) (hk : M.ok k)
    (hK : ∀ w', MapIs M ev w' b (ins l k y) → OnlyB w w' b → K (a.put o.dst undef) w') : if Region.wanted o (yielded ops a.tmps) = true then Oper.wp P o a w K Q else E := by
  have hw : Region.wanted o (yielded ops a.tmps) = true := by simp [Region.wanted, hg]
  rw [if_pos hw]
  obtain ⟨w', hrun, r1, r2⟩ := h.update ht hk y
  unfold Oper.wp
  simp [execOp, hop, hm, hx, hv, hrun, Result.andThen]
  exact hK w' r1 r2
end

theorem look_ins {κ ν : Type} [DecidableEq κ] (l : List (κ × ν)) (k : κ) (v : ν) (j : κ) : look (ins l k v) j = if j = k then some v else look l j := by
  induction l with
  | nil =>
    by_cases h : j = k
    · subst h; simp [ins, look]
    · have : ¬ k = j := fun e => h e.symm
      simp [ins, look, h, this]
  | cons x r ih =>
    unfold ins
    by_cases hx : x.1 = k
    · rw [if_pos hx]
      by_cases h : j = k
      · subst h; simp [look]
      · have h1 : ¬ k = j := fun e => h e.symm
        have h2 : ¬ x.1 = j := fun e => h (e.symm.trans hx)
        simp [look, h, h1, h2]
    · rw [if_neg hx]
      by_cases hj : x.1 = j
      · have : ¬ j = k := fun e => hx (hj.trans e)
        simp [look, hj, this]
      · have e1 : look (x :: ins r k v) j = look (ins r k v) j := by simp [look, hj]
        have e2 : look (x :: r) j = look r j := by simp [look, hj]
        rw [e1, e2, ih]
end Go.Proofs.YtgggpaacagbmcaaGreat
