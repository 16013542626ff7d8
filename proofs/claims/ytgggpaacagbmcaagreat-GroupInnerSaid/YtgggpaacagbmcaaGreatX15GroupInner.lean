/- money: take, tell, Add; trial.Sum. -/
import Derived.Test.YtgggpaacagbmcaaGreatX14GroupInner
import Derived.Test.YtgggpaacagbmcaaGreatX12GroupInner
import Derived.Test.YtgggpaacagbmcaaGreatX08GroupInner
import Derived.Laws.AppendOwnNone
import Derived.Test.YtgggpaacagbmcaaGreatX10GroupInner
import Derived.Test.YtgggpaacagbmcaaGreatX13GroupInner
set_option linter.unusedVariables false
set_option linter.unusedSimpArgs false
namespace Go.Proofs.YtgggpaacagbmcaaGreat
open Go.RowKit Go.Maps

theorem quo_rem (a : Int) (h1 : -1000000000000000 ≤ a) (h2 : a ≤ 1000000000000000) : ∃ q r : Int, a.tdiv 1000000000 = q ∧ a.tmod 1000000000 = r ∧ a = q * 1000000000 + r ∧ -1000000000 < r ∧ r < 1000000000 ∧ -1000000 ≤ q ∧ q ≤ 1000000 := by
  refine ⟨_, _, rfl, rfl, ?_⟩
  rcases Int.le_total 0 a with h | h
  · rw [Int.tdiv_eq_ediv_of_nonneg h, Int.tmod_eq_emod_of_nonneg h]
    omega
  · obtain ⟨b, rfl⟩ : ∃ b, a = -b := ⟨-a, by omega⟩
    rw [Int.neg_tdiv, Int.neg_tmod, Int.tdiv_eq_ediv_of_nonneg (by omega), Int.tmod_eq_emod_of_nonneg (by omega)]
    omega
theorem quo_rem2 (a : Int) (h1 : -2000000000 < a) (h2 : a < 2000000000) : ∃ q r : Int, a.tdiv 1000000000 = q ∧ a.tmod 1000000000 = r ∧ a = q * 1000000000 + r ∧ -1000000000 < r ∧ r < 1000000000 ∧ -1 ≤ q ∧ q ≤ 1 := by
  refine ⟨_, _, rfl, rfl, ?_⟩
  rcases Int.le_total 0 a with h | h
  · rw [Int.tdiv_eq_ediv_of_nonneg h, Int.tmod_eq_emod_of_nonneg h]
    omega
  · obtain ⟨b, rfl⟩ : ∃ b, a = -b := ⟨-a, by omega⟩
    rw [Int.neg_tdiv, Int.neg_tmod, Int.tdiv_eq_ediv_of_nonneg (by omega), Int.tmod_eq_emod_of_nonneg (by omega)]
    omega

def TakePost (w : World) (g : Nat) (s h : Int) (e : Ending) (w' : World) : Prop :=
  e = .returned (.tuple #[]) ∧ (∃ hi lo : Int, w'.heap[g]? = some (.cells #[.int .i64 hi, .int .i64 lo] 217 (0, 0)) ∧ hi * 1000000000 + lo = s ∧ -1000000000 < lo ∧ lo < 1000000000 ∧ -h ≤ hi ∧ hi ≤ h) ∧ But (· = g) w w'

set_option maxHeartbeats 4000000 in
set_option maxRecDepth 100000 in
theorem take_any {w : World} {g : Nat} (hi lo a h : Int) (hc : w.heap[g]? = some (.cells #[.int .i64 hi, .int .i64 lo] 217 (0, 0))) (h1 : -1000000000 < lo) (h2 : lo < 1000000000) (h3 : -h ≤ hi) (h4 : hi ≤ h) (h5 : h ≤ 1000000000000) (a1 : -1000000000000000 ≤ a) (a2 : a ≤ 1000000000000000) :
    Calls Tryz.prog 141 #[.pointer (some ⟨g, 0, none⟩), .int .i64 a] w (TakePost w g (hi * 1000000000 + lo + a) (h + 1000001)) := by
  obtain ⟨q, r, hq, hr, e1, r1, r2, q1, q2⟩ := quo_rem a a1 a2
  obtain ⟨q', r', hq', hr', e2, r1', r2', q1', q2'⟩ := quo_rem2 (lo + r) (by omega) (by omega)
  have HE : Hid ((hi + q + q') * 1000000000 + r' = hi * 1000000000 + lo + a) := Lib.hid (by omega)
  have H := Lib.hid hc
  have hcc := blk_cells hc
  have hcl := blk_lt hc
  have hcf := blk_frz hc
  clear hc e1 e2
  go_enter Tryz.func141, Tryz.ntmps141
  go_wp2_with fail
  refine abs_world (S := fun wx => wx.heap[g]? = some (.cells #[.int .i64 (hi + q), .int .i64 (lo + r)] 217 (0, 0)) ∧ But (· = g) w wx) ?_ ⟨?_, ?_⟩
  · rintro wx ⟨hx, hb⟩
    have HX := Lib.hid hx
    have HB := Lib.hid hb
    clear hcc hcl hcf
    have hcc := blk_cells hx
    have hcl := blk_lt hx
    have hcf := blk_frz hx
    clear hx hb
    refine still_tail 12 (by kernel_rfl) (by kernel_rfl) ?_
    simp only [List.take_succ_cons, List.take_zero, List.drop_succ_cons, List.drop_zero]
    repeat still_step
    try refine wpStill_nil ?_
    go_wp2_with fail
    go_end0
    refine ⟨rfl, ⟨hi + q + q', r', ?_, HE.out, r1', r2', by omega, by omega⟩, ?_⟩
    · have := blk_set (blk_set HX.out 0 (.int .i64 (hi + q + q'))) 1 (.int .i64 r')
      simp at this
      exact this
    · exact ((HB.out.setCell (p := ⟨g, 0, none⟩) (.inl rfl) _).setCell (p := ⟨g, 1, none⟩) (.inl rfl) _).drew
  · have := blk_set (blk_set H.out 0 (.int .i64 (hi + q))) 1 (.int .i64 (lo + r))
    simpa using this
  · exact ((But.refl (· = g) w).setCell (p := ⟨g, 0, none⟩) (.inl rfl) _).setCell (p := ⟨g, 1, none⟩) (.inl rfl) _

def fitS (s : Int) : Int × Int := if fitsB s then (s, 0) else (0, 2)
set_option maxHeartbeats 4000000 in
set_option maxRecDepth 100000 in
theorem mtell_any {w : World} {g : Nat} (hi lo s h : Int) (hc : w.heap[g]? = some (.cells #[.int .i64 hi, .int .i64 lo] 217 (0, 0))) (h1 : -1000000000 < lo) (h2 : lo < 1000000000) (hs : hi * 1000000000 + lo = s) :
    Calls Tryz.prog 142 #[.pointer (some ⟨g, 0, none⟩)] w fun e w' => e = .returned (.tuple #[.int .i64 (fitS s).1, .int .i64 (fitS s).2]) ∧ Below w.heap.size w w' := by
  have hcc := blk_cells hc
  have hcl := blk_lt hc
  have hcs : 1000000 < hi ∨ hi ≤ 1000000 ∧ (hi < -1000000 ∨ -1000000 ≤ hi) := by omega
  generalize hfs : fitS s = r
  rcases hcs with h' | ⟨h', h''⟩
  · have HR : Hid (r = (0, 2)) := Lib.hid (by rw [← hfs]; unfold fitS fitsB; rw [if_neg (by simp; omega)])
    clear hfs hs
    go_enter Tryz.func142, Tryz.ntmps142
    go_wp2_with fail
    go_ret2
    rw [HR.out]
    exact ⟨rfl, Below.refl _ _⟩
  · rcases h'' with h'' | h''
    · have HR : Hid (r = (0, 2)) := Lib.hid (by rw [← hfs]; unfold fitS fitsB; rw [if_neg (by simp; omega)])
      clear hfs hs
      go_enter Tryz.func142, Tryz.ntmps142
      go_wp2_with fail
      go_ret2
      rw [HR.out]
      exact ⟨rfl, Below.refl _ _⟩
    · have HS := Lib.hid hs
      have HFS := Lib.hid hfs
      have HW : Hid (I64 (hi * 1000000000 + lo)) := Lib.hid (by unfold I64 Lit.wf; simp [IntKind.min, IntKind.max, IntKind.bits, IntKind.signed]; omega)
      have HZ := Lib.hid (blk_new w.drew (.cells #[.int .i64 (hi * 1000000000 + lo)] 3))
      have HB := Lib.hid (Below.alloc (Below.drew (Below.refl w.heap.size w)) (Nat.le_refl _) (.cells #[.int .i64 (hi * 1000000000 + lo)] 3))
      clear hfs hs
      go_enter Tryz.func142, Tryz.ntmps142
      go_wp2_with fail
      go_quiet (fail)
      have HZX := Lib.hid (fun n => (blk_new (w.drewN n) (.cells #[.int .i64 (hi * 1000000000 + lo)] 3) : ((w.drewN n).alloc (.cells #[.int .i64 (hi * 1000000000 + lo)] 3)).heap[w.heap.size]? = _))
      have HBX := Lib.hid (fun n => Below.alloc (below_drewN (Below.refl w.heap.size w) n) (Nat.le_refl _) (.cells #[.int .i64 (hi * 1000000000 + lo)] 3))
      clear hcc hcl HZ HB
      cases hfv : fitsB (hi * 1000000000 + lo)
      · have HR : Hid (r = (0, 2)) := Lib.hid (by rw [← HFS.out, ← HS.out]; unfold fitS; rw [hfv]; rfl)
        go_wp2_with fail
        refine (mfits_lo (hi * 1000000000 + lo) w.heap.size _ (HZX.out _) HW.out hfv).mono ?_
        rintro en w6 ⟨rfl, hb⟩
        go_wp2_with fail
        go_ret2
        rw [HR.out]
        exact ⟨rfl, belows_then (HBX.out _) (HBX.out _).size hb⟩
      · have HR : Hid (r = (hi * 1000000000 + lo, 0)) := Lib.hid (by rw [← HFS.out, ← HS.out]; unfold fitS; rw [hfv]; rfl)
        go_wp2_with fail
        refine (mfits_lo (hi * 1000000000 + lo) w.heap.size _ (HZX.out _) HW.out hfv).mono ?_
        rintro en w6 ⟨rfl, hb⟩
        go_wp2_with fail
        go_ret2
        rw [HR.out]
        exact ⟨rfl, belows_then (HBX.out _) (HBX.out _).size hb⟩

def sumI : List Int → Int
  | [] => 0
  | x :: r => x + sumI r
theorem sumI_app : ∀ (a b : List Int), sumI (a ++ b) = sumI a + sumI b
  | [], b => by simp [sumI]
  | x :: r, b => by simp only [List.cons_append, sumI, sumI_app r b]; omega
theorem sumI_succ (l : List Int) (n : Nat) (hn : n < l.length) : sumI (l.take (n + 1)) = sumI (l.take n) + l[n] := by
  rw [List.take_succ_eq_append_getElem hn, sumI_app]; simp [sumI]
def addM (l : List Int) : Int × Int := if l.all fitsB then fitS (sumI l) else (0, 2)
theorem mfitsl_is (a : Option Addr) (cap : Nat) (l : List Int) (w : World) {F : Nat → Prop} (hl : l.length ≤ 140737488351232) (hs : Sl tInt w F a l) {b : Bool} (hb : l.all fitsB = b) :
    Calls Tryz.prog 83 #[.slice a l.length cap] w fun e w' => e = .returned (.bool b) ∧ Below w.heap.size w w' := by
  have := mfits_any a cap l w hl hs
  rw [hb] at this
  exact this.mono fun e w' ⟨h1, h2⟩ => ⟨h1, by rw [h2]; exact Below.refl _ _⟩

set_option maxHeartbeats 4000000 in
set_option maxRecDepth 100000 in
theorem madd_any (l : List Int) (a : Option Addr) (cap : Nat) (w : World) {F : Nat → Prop} (hs : Sl tInt w F a l) (hl : l.length ≤ 100000) :
    Calls Tryz.prog 97 #[.slice a l.length cap] w fun e w' => e = .returned (.tuple #[.int .i64 (addM l).1, .int .i64 (addM l).2]) ∧ Below w.heap.size w w' := by
  have HS := Lib.hid hs
  clear hs
  generalize hres : addM l = res
  have HRES := Lib.hid hres
  clear hres
  cases hall : l.all fitsB
  · have HR : Hid (res = (0, 2)) := Lib.hid (by rw [← HRES.out]; unfold addM; rw [hall]; rfl)
    have HALL := Lib.hid hall
    clear hall
    go_enter Tryz.func97, Tryz.ntmps97
    go_wp2_with fail
    refine (mfitsl_is a cap l _ (by omega) HS.out HALL.out).mono ?_
    rintro en w2 ⟨rfl, hb⟩
    go_wp2_with fail
    go_ret2
    rw [HR.out]
    exact ⟨rfl, hb⟩
  · have HR : Hid (res = fitS (sumI l)) := Lib.hid (by rw [← HRES.out]; unfold addM; rw [hall]; rfl)
    have HALL := Lib.hid hall
    clear hall
    go_enter Tryz.func97, Tryz.ntmps97
    go_wp2_with fail
    refine (mfitsl_is a cap l _ (by omega) HS.out HALL.out).mono ?_
    rintro en w2 ⟨rfl, hb⟩
    have HB2 := Lib.hid hb
    have HZ := Lib.hid (blk_new w2 (.cells #[.int .i64 0, .int .i64 0] 217))
    have HB3 := Lib.hid (hb.alloc hb.size (.cells #[.int .i64 0, .int .i64 0] 217))
    clear hb
    go_wp2_with fail
    go_loopw [12] (fun vi wr => ∃ (n : Nat) (hi lo : Int), n ≤ l.length ∧ vi = .int .i64 n ∧ wr.heap[w2.heap.size]? = some (.cells #[.int .i64 hi, .int .i64 lo] 217 (0, 0)) ∧ Hid (hi * 1000000000 + lo = sumI (l.take n)) ∧ -1000000000 < lo ∧ lo < 1000000000 ∧ -((n : Int) * 1000001) ≤ hi ∧ hi ≤ (n : Int) * 1000001 ∧ Below w2.heap.size w2 wr) (fun vi _ => l.length - (Go.RowKit.intOf vi).toNat)
    case atStart => exact ⟨0, 0, 0, Nat.zero_le _, rfl, HZ.out, Lib.hid rfl, by omega, by omega, by omega, by omega, (Below.refl _ _).alloc (Nat.le_refl _) _⟩
    case round =>
      obtain ⟨n, hi, lo, hn, rfl, hz, hsum, l1, l2, b1, b2, hb⟩ := hrel
      have HZR := Lib.hid hz
      have HBR := Lib.hid hb
      clear hz hb
      by_cases hlt : n < l.length
      · obtain ⟨ad, rfl, hadl, hc0⟩ := int_at (Sl.keep (fun k hk _ => HBR.out.block k hk) (Sl.keep (fun k hk _ => HB2.out.block k hk) HS.out)) n hlt
        have hfit : fitsB l[n] = true := by
          have := HALL.out
          rw [List.all_eq_true] at this
          exact this _ (List.getElem_mem hlt)
        have hfa : -1000000000000000 ≤ l[n] ∧ l[n] ≤ 1000000000000000 := by simpa [fitsB] using hfit
        obtain ⟨fa1, fa2⟩ := hfa
        have HN : Hid (hi * 1000000000 + lo + l[n] = sumI (l.take (n + 1))) := Lib.hid (by rw [sumI_succ l n hlt, hsum.out])
        have hnb : (n : Int) * 1000001 ≤ 1000000000000 := by omega
        clear hfit
        go_wp2_with fail
        refine (take_any hi lo l[n] ((n : Int) * 1000001) HZR.out l1 l2 b1 b2 hnb fa1 fa2).mono ?_
        rintro en w4 ⟨rfl, ⟨hi2, lo2, hz, hs2, l3, l4, b3, b4⟩, hb⟩
        have HZ4 := Lib.hid hz
        have HS4 := Lib.hid (hs2.trans HN.out)
        have HB4 := Lib.hid (But.below ((But.of_below HBR.out (· = w2.heap.size)).trans hb) (fun k hk e => by omega))
        clear hz hs2 hb hc0 hadl
        go_wp2_with fail
        go_roundw
        case rel => exact ⟨n + 1, hi2, lo2, by omega, by go_num, HZ4.out, HS4, l3, l4, (by omega), (by omega), HB4.out⟩
        case measure => simp [Go.RowKit.intOf]; omega
      · have HL : Hid (hi * 1000000000 + lo = sumI l) := Lib.hid (by have := hsum.out; rwa [take_all hn hlt] at this)
        go_wp2_with fail
        refine (mtell_any hi lo (sumI l) 0 HZR.out l1 l2 HL.out).mono ?_
        rintro en w4 ⟨rfl, hb⟩
        rw [← HR.out]
        go_wp2_with fail
        go_ret2
        exact ⟨rfl, belows_then HB2.out HB2.out.size (belows_then HBR.out HBR.out.size hb)⟩

theorem int_one (w : World) (F : Nat → Prop) (c : List Value) (x : Int) (h : tInt.R w F c x) : ∀ u ∈ c, u.oneCell' = true := by
  obtain ⟨rfl, _⟩ := h
  simp [Value.oneCell']
theorem int_free (w : World) (F G : Nat → Prop) (c : List Value) (x : Int) (h : tInt.R w F c x) : tInt.R w G c x := h
theorem sl_oneI {w : World} {F : Nat → Prop} {b : Nat} {x : Int} (hb : w.heap[b]? = some (.cells #[.int .i64 x] 3 (0, 0))) (hF : F b) (hx : I64 x) : Sl tInt w F (some ⟨b, 0, none⟩) [x] := by
  intro i y hi
  cases i with
  | succ i => simp at hi
  | zero =>
    simp at hi
    subst hi
    refine ⟨_, [.int .i64 x], rfl, hF, (Array.getElem?_eq_some_iff.1 hb).1, fun k u hu => ?_, rfl, hx⟩
    rw [Nat.zero_mul, Go.Addr.add_add, Nat.zero_add]
    have : (⟨b, 0, none⟩ : Addr).add k = ⟨b, k, none⟩ := by unfold Addr.add; split <;> simp_all
    rw [this, cell_of_row w b k _ 3 (0, 0) hb]
    simpa using hu

end Go.Proofs.YtgggpaacagbmcaaGreat


/- Ranging over maps in a plain walk; append of a slice that may be nil. -/
set_option linter.unusedVariables false
set_option linter.unusedSimpArgs false
namespace Go.Proofs.YtgggpaacagbmcaaGreat
open Go.RowKit Go.Maps

section
variable {P : Program} {t : TypeId} {κ ν : Type} {M : MK P t κ} {ev : ν → Value} {ops : Array Oper} {rest : List Oper} {o : Oper} {a : Act} {Q : Exit → Act → World → Prop} {w : World}
theorem wp_range (hg : o.guard = none) (m : Operand) (T : TypeId) (hop : o.op = Op.range T m) (e : TypeId) (ht : P.underlying T = some (.map t e)) (b : Nat) (l : List (κ × ν)) (hm : a.eval m = .map (some b)) (h : MapIs M ev w b l)
    (hK : ∀ w', Rng M ev w' b w.heap.size l [] → w.grownBy w' none → w'.heap.size = w.heap.size + 1 → wpList P ops Q rest (a.put o.dst (.pointer (some ⟨w.heap.size, 0, none⟩))) w') :
    wpList P ops Q (o :: rest) a w := by
  refine wpList_plain hg fun K' hK' => ?_
  obtain ⟨w', hrun, r1, r2, r3⟩ := h.range ht
  unfold Oper.wp
  simp [execOp, hop, hm, hrun, Result.andThen]
  exact hK' _ _ (hK w' r1 r2 r3)
theorem wp_next (hg : o.guard = none) (it : Operand) (hop : o.op = Op.next it false) (b r : Nat) (l : List (κ × ν)) (ss : List κ) (hit : a.eval it = .pointer (some ⟨r, 0, none⟩)) (h : Rng M ev w b r l ss)
    (hDone : ss.Perm (l.map (·.1)) → wpList P ops Q rest (a.put o.dst (.tuple #[.bool false])) w)
    (hMore : ∀ k v w', (k, v) ∈ l → Rng M ev w' b r l (ss ++ [k]) → w'.rangeLeft b r < w.rangeLeft b r → w.grownBy w' (some r) → w'.heap.size = w.heap.size →
      (Instr.entry (.pointer (some ⟨r, 0, none⟩))).run P w' = .ok (.tuple #[M.ek k, ev v]) w' → wpList P ops Q rest (a.put o.dst (.tuple #[.bool true, M.ek k, ev v])) w') :
    wpList P ops Q (o :: rest) a w := by
  refine wpList_plain hg fun K' hK' => ?_
  unfold Oper.wp
  rcases h.next o.type with ⟨h0, hrun⟩ | ⟨k, v, w', hkv, hrun, hrg, hlt, hgr, hsz, hen⟩
  · simp [execOp, hop, hit, hrun, Result.andThen]
    exact hK' _ _ (hDone h0)
  · simp [execOp, hop, hit, hrun, Result.andThen]
    exact hK' _ _ (hMore k v w' hkv hrg hlt hgr hsz hen)
end
section
variable {P : Program} {e : TypeId} {α : Type} {T : Ty P e α} {ops : Array Oper} {rest : List Oper} {o : Oper} {a : Act} {Q : Exit → Act → World → Prop} {w : World}
theorem wp_appA (hgd : o.guard = none) (s x : Operand) (t : TypeId) (ho : o.op = .call { callee := .builtin .append, args := #[s, x], argTypes := #[t, t] })
    (i : TypeInfo) (z : Value) (bytes : Nat) (ht : P.underlying t = some (.slice e)) (hi : P.info? e = some i) (hz : i.zero = some z) (hsize : i.size = T.n) (hby : i.bytes = bytes) (hzs : z.cells.size = T.n) (hsz : 0 < T.n)
    (h1c : ∀ (w : World) (F : Nat → Prop) (c : List Value) (x : α), T.R w F c x → ∀ u ∈ c, u.oneCell' = true)
    (base : Nat) (v : Value) (xs : List α) (hs : a.eval s = v) (hown : OwnL T w base v xs) (ad : Option Addr) (c : Nat) (ys : List α) (hx : a.eval x = .slice ad ys.length c) (hnil : ad = none → ys = [] ∧ c = 0)
    (hys : Sl T w (fun k => some k ≠ v.ownBlock ∧ k < w.heap.size) ad ys) (h63 : xs.length + ys.length ≤ maxLen) (hbytes : (xs.length + ys.length) * bytes ≤ 140737488355328) (hbase : base ≤ w.heap.size)
    (h : ∀ v' w', OwnL T w' base v' (xs ++ ys) → w.grownBy w' v.ownBlock → (v'.ownBlock = v.ownBlock ∨ v'.ownBlock = some w.heap.size) → wpList P ops Q rest (a.put o.dst v') w') :
    wpList P ops Q (o :: rest) a w := by
  cases ad with
  | some ad => exact wp_app hgd s x t ho i z bytes ht hi hz hsize hby hzs hsz h1c base v xs hs hown ad c ys hx hys h63 hbytes hbase (fun v' w' h1 h2 _ h4 => h v' w' h1 h2 h4)
  | none =>
    obtain ⟨rfl, rfl⟩ := hnil rfl
    obtain ⟨css, hr, h2⟩ := hown
    exact wpList_append_own_none hgd s x t ho base e i T.n ht hi v xs.length css.flatten hs hr hx (h v w (by rw [List.append_nil]; exact ⟨css, hr, h2⟩) ⟨rfl, rfl, rfl, Nat.le_refl _, fun _ _ _ => rfl⟩ (.inl rfl))
end
end Go.Proofs.YtgggpaacagbmcaaGreat


/- Charts of the document: a row, an account, a kind, one more account. -/
set_option linter.unusedVariables false
set_option linter.unusedSimpArgs false
namespace Go.Proofs.YtgggpaacagbmcaaGreat
open Go.RowKit Go.Maps Go.Deep

theorem three (w : World) (b : Nat) {t : TypeId} {x0 x1 x2 : Value} (h : w.heap[b]? = some (.cells #[x0, x1, x2] t (0, 0))) (v0 v1 v2 : Value) :
    ∃ w4, (((w.setCell ⟨b, 0, none⟩ v0).setCell ⟨b, 1, none⟩ v1).setCell ⟨b, 2, none⟩ v2) = w4 ∧ w4.heap[b]? = some (.cells #[v0, v1, v2] t (0, 0)) ∧ w4.heap.size = w.heap.size ∧
      (∀ k, k ≠ b → w4.heap[k]? = w.heap[k]?) ∧ (∀ B w0, Below B w0 w → B ≤ b → Below B w0 w4) := by
  refine ⟨_, rfl, ?_, by simp, fun k hk => ?_, fun B w0 hb hB => ?_⟩
  · have := blk_set (blk_set (blk_set h 0 v0) 1 v1) 2 v2
    simpa using this
  · iterate 3 (rw [Below.heap_setCell _ _ _ k hk])
  · iterate 3 (refine Below.setCell ?_ hB _)
    exact hb

theorem row_any (c k : Int) (w : World) {b : Bool} (h : rowB ⟨c, k, false⟩ = b) : Calls Tryz.prog 84 #[.int .i64 c, .int .i64 k] w fun e w' => e = .returned (.bool b) ∧ w' = w := by
  rcases rowB_cases h with ⟨rfl, h1, h2, h3, h4⟩ | ⟨rfl, h1 | ⟨h1, h2 | ⟨h2, h3 | ⟨h3, h4⟩⟩⟩⟩
  all_goals
    clear h
    go_enter Tryz.func84, Tryz.ntmps84
    go_wp2
    go_ret
    refine ⟨?_, rfl⟩
    first | rfl | (simp; omega)

def ac0 : Ac := ⟨0, 0, false⟩
def acD (l : List Ac) (c : Int) : Ac := (findA l c).getD ac0
theorem kindA_D (l : List Ac) (c : Int) : kindA l c = (acD l c).kind := by
  unfold kindA acD
  cases findA l c <;> rfl

set_option maxHeartbeats 2000000 in
set_option maxRecDepth 100000 in
theorem raccount_any (l : List Ac) (a : Option Addr) (cap : Nat) (c : Int) (w : World) {F : Nat → Prop} (hs : Sl tAc w F a l) (hl : l.length ≤ maxLen) :
    Calls Tryz.prog 102 #[.slice a l.length cap, .int .i64 c] w fun e w' => e = .returned (.tuple #[acv (acD l c), .bool (findA l c).isSome]) ∧ Below w.heap.size w w' := by
  have HS := Lib.hid hs
  have hl' : l.length ≤ 9223372036854775807 := by unfold maxLen at hl; omega
  clear hs hl
  have HB := Lib.hid ((Below.refl w.heap.size w).alloc (Nat.le_refl _) (.cells #[.int .i64 0, .int .i64 0, .bool false] 79))
  have HZ := Lib.hid (blk_new w (.cells #[.int .i64 0, .int .i64 0, .bool false] 79))
  go_enter Tryz.func102, Tryz.ntmps102
  go_wp2_with fail
  go_loopw [6] (fun vi wr => ∃ n : Nat, n ≤ l.length ∧ vi = .int .i64 n ∧ Hid ((l.take n).any (fun x => x.code = c) = false) ∧ wr = w.alloc (.cells #[.int .i64 0, .int .i64 0, .bool false] 79)) (fun vi _ => l.length - (Go.RowKit.intOf vi).toNat)
  case atStart => exact ⟨0, Nat.zero_le _, rfl, rfl, rfl⟩
  case round =>
    obtain ⟨n, hn, rfl, hany, hwr⟩ := hrel
    have HB1 : Hid (Below w.heap.size w wr) := by rw [hwr]; exact HB
    have HZ1 : Hid (wr.heap[w.heap.size]? = some (.cells #[.int .i64 0, .int .i64 0, .bool false] 79 (0, 0))) := by rw [hwr]; exact HZ
    have HWR := Lib.hid hwr
    clear hwr
    have hz := blk_cells HZ1.out
    have hzf := blk_frz HZ1.out
    have hzl := blk_lt HZ1.out
    by_cases hlt : n < l.length
    · obtain ⟨ad, rfl, _, hadl, hc0, hc1, hc2, _, _⟩ := ac_at (HS.out.keep fun k hk _ => HB1.out.block k hk) n hlt
      cases hv : (l[n].code == c)
      · have hd0 : decide (l[n].code = c) = false := by simpa using hv
        have hnext : (l.take (n + 1)).any (fun x => decide (x.code = c)) = false := by
          rw [any_take_succ _ l n hlt, hany.out, hd0]
          rfl
        clear hd0
        have HN := Lib.hid hnext
        clear hnext
        go_wp2_with fail
        go_roundw
        case rel => exact ⟨n + 1, by omega, by go_num, HN.out, HWR.out⟩
        case measure => simp [Go.RowKit.intOf]; omega
      · have hf : findA l c = some l[n] := find_first (fun x : Ac => decide (x.code = c)) l n hlt hany.out (by simpa using hv)
        have hd : acD l c = l[n] := by unfold acD; rw [hf]; rfl
        have HF := Lib.hid (And.intro hf hd)
        clear hf hd
        go_wp2_with fail
        obtain ⟨w4, hw4, h4, hs4, hk4, hb4⟩ := three wr w.heap.size HZ1.out (.int .i64 l[n].code) (.int .i64 l[n].kind) (.bool l[n].ret)
        rw [hw4]
        clear hw4
        refine bodyPost_ret (v := .tuple #[acv l[n], .bool true]) (results_row_tmp (fn := Tryz.f102) (p := 4) (ty := 79) rfl _ _ w.heap.size 79 _ (0, 0) _ rfl h4 Tryz.underlying79 rfl (by kernel_rfl)) rfl ?_
        exact ⟨by rw [HF.out.1, HF.out.2]; rfl, hb4 _ _ HB1.out (Nat.le_refl _)⟩
    · have hno : findA l c = none := by
        have := hany.out
        rw [take_all hn hlt] at this
        unfold findA
        rw [List.find?_eq_none]
        intro x hx he
        rw [List.any_eq_false] at this
        exact this x hx he
      have HNO := Lib.hid hno
      clear hno hany
      go_wp2_with fail
      obtain ⟨w4, hw4, h4, hs4, hk4, hb4⟩ := three wr w.heap.size HZ1.out (.int .i64 0) (.int .i64 0) (.bool false)
      rw [hw4]
      clear hw4
      refine bodyPost_ret (v := .tuple #[acv ac0, .bool false]) (results_row_tmp (fn := Tryz.f102) (p := 4) (ty := 79) rfl _ _ w.heap.size 79 _ (0, 0) _ rfl h4 Tryz.underlying79 rfl (by kernel_rfl)) rfl ?_
      exact ⟨by unfold acD; rw [HNO.out]; rfl, hb4 _ _ HB1.out (Nat.le_refl _)⟩

set_option maxHeartbeats 2000000 in
theorem r10kind_any (l : List Ac) (a : Option Addr) (cap : Nat) (c : Int) (w : World) {F : Nat → Prop} (hs : Sl tAc w F a l) (hl : l.length ≤ maxLen) :
    Calls Tryz.prog 37 #[.slice a l.length cap, .int .i64 c] w fun e w' => e = .returned (.int .i64 (kindA l c)) ∧ Below w.heap.size w w' := by
  have HC := Lib.hid (raccount_any l a cap c w hs hl)
  clear hs hl
  rw [kindA_D]
  go_enter Tryz.func37, Tryz.ntmps37
  go_wp2_with fail
  refine HC.out.mono ?_
  rintro e w1 ⟨rfl, hb⟩
  have HB := Lib.hid (hb.alloc hb.size (.cells #[.int .i64 (acD l c).code, .int .i64 (acD l c).kind, .bool (acD l c).ret] 79))
  clear hb
  go_wp2_with fail
  go_ret
  exact ⟨rfl, HB.out⟩
end Go.Proofs.YtgggpaacagbmcaaGreat


/- Charts: New, Get; a number in a list. -/
set_option linter.unusedVariables false
set_option linter.unusedSimpArgs false
namespace Go.Proofs.YtgggpaacagbmcaaGreat
open Go.RowKit Go.Maps Go.Deep

theorem index_any (l : List Int) (a : Option Addr) (cap : Nat) (v : Int) (w : World) {F : Nat → Prop} (hs : Sl tInt w F a l) (hl : l.length ≤ maxLen) :
    Calls Tryz.prog 165 #[.slice a l.length cap, .int .i64 v] w fun e w' => (∃ i : Int, e = .returned (.int .i64 i) ∧ decide (0 ≤ i) = l.contains v) ∧ w' = w := by
  have HS := Lib.hid hs
  have hl' : l.length ≤ 9223372036854775807 := by unfold maxLen at hl; omega
  clear hs hl
  go_enter Tryz.func165, Tryz.ntmps165
  go_wp2_with fail
  go_loopw [8] (fun vi wr => ∃ n : Nat, n ≤ l.length ∧ vi = .int .i64 n ∧ Hid (∀ i (hi : i < l.length), i < n → l[i] ≠ v) ∧ wr = w) (fun vi _ => l.length - (Go.RowKit.intOf vi).toNat)
  case atStart => exact ⟨0, Nat.zero_le _, rfl, Lib.hid (fun i _ h => by omega), rfl⟩
  case round =>
    obtain ⟨n, hn, rfl, hno, rfl⟩ := hrel
    by_cases hlt : n < l.length
    · obtain ⟨ad, rfl, hadl, hc0⟩ := int_at HS.out n hlt
      cases hv : (v == l[n])
      · have HN : Hid (∀ i (hi : i < l.length), i < n + 1 → l[i] ≠ v) := Lib.hid (fun i hi hin => by
          rcases Nat.lt_or_ge i n with h | h
          · exact hno.out i hi h
          · have : i = n := by omega
            subst this
            intro e
            rw [e] at hv
            simp at hv)
        go_wp2_with fail
        go_roundw
        case rel => exact ⟨n + 1, by omega, by go_num, HN, by first | rfl | trivial⟩
        case measure => simp [Go.RowKit.intOf]; omega
      · have HF : Hid (l.contains v = true) := Lib.hid (by
          have : v = l[n] := by simpa using hv
          rw [this]
          simp)
        go_wp2_with fail
        go_ret
        exact ⟨⟨n, rfl, by rw [HF.out]; simp⟩, rfl⟩
    · have HF : Hid (l.contains v = false) := Lib.hid (by
        rw [Bool.eq_false_iff]
        intro h
        rw [List.contains_iff_mem] at h
        obtain ⟨i, hi, he⟩ := List.mem_iff_getElem.1 h
        exact hno.out i hi (by omega) he)
      go_wp2_with fail
      go_ret
      exact ⟨⟨-1, rfl, by rw [HF.out]; rfl⟩, rfl⟩
theorem contains_any (l : List Int) (a : Option Addr) (cap : Nat) (v : Int) (w : World) {F : Nat → Prop} (hs : Sl tInt w F a l) (hl : l.length ≤ maxLen) {b : Bool} (hb : l.contains v = b) :
    Calls Tryz.prog 144 #[.slice a l.length cap, .int .i64 v] w fun e w' => e = .returned (.bool b) ∧ w' = w := by
  have HC := Lib.hid (index_any l a cap v w hs hl)
  have HB := Lib.hid hb
  clear hs hl hb
  go_enter Tryz.func144, Tryz.ntmps144
  go_wp2_with fail
  refine HC.out.mono ?_
  rintro e w1 ⟨⟨i, rfl, hi⟩, rfl⟩
  rw [HB.out] at hi
  have HI := Lib.hid hi
  clear hi
  go_wp2_with fail
  go_ret
  rw [← HI.out]
  exact ⟨rfl, rfl⟩

/-- block g is a chart of accounts -/
structure ChartAt (w : World) (g : Nat) (mb : Option Nat) (l : List Ac) : Prop where
  cell : w.heap[g]? = some (.cells #[.map mb] 201 (0, 0))
  none : mb = none → l = []
  some : ∀ b, mb = some b → MapIs mInt acv w b (codesOf l) ∧ b ≠ g
theorem ChartAt.below {w w' : World} {g : Nat} {mb : Option Nat} {l : List Ac} (h : ChartAt w g mb l) (hb : Below w.heap.size w w') : ChartAt w' g mb l :=
  ⟨blk_below h.cell hb, h.none, fun b e => ⟨(h.some b e).1.keep (hb.block b (h.some b e).1.lt), (h.some b e).2⟩⟩
theorem zeroA (w : World) : (zeroValue 79).run Tryz.prog w = .ok (acv ac0) w := by kernel_rfl
theorem lookA {w : World} {g : Nat} {mb : Option Nat} {l : List Ac} (h : ChartAt w g mb l) {k : Int} (hk : I64 k) (W : World) (hW : ∀ b, b < w.heap.size → W.heap[b]? = w.heap[b]?) :
    (Instr.lookup 199 (.map mb) (.int .i64 k) true).run Tryz.prog W = .ok (.tuple #[acv (acD l k), .bool (findA l k).isSome]) W := by
  cases mb with
  | none =>
    obtain rfl := h.none rfl
    have := lookup_nil mInt (w := W) Tryz.underlying199 (k := k) hk (zeroA W) true
    exact this
  | some b =>
    have h1 := (h.some b rfl).1
    have := (h1.keep (w' := W) (hW b h1.lt)).lookup_ok Tryz.underlying199 (k := k) hk (zeroA W)
    rw [look_codes] at this
    rw [show mInt.ek k = .int .i64 k from rfl] at this
    rw [this]
    unfold acD
    cases findA l k <;> rfl

set_option maxHeartbeats 2000000 in
set_option maxRecDepth 100000 in
theorem chget_any {w : World} {g : Nat} {mb : Option Nat} {l : List Ac} (h : ChartAt w g mb l) (k : Int) (hk : I64 k) :
    Calls Tryz.prog 135 #[.pointer (some ⟨g, 0, none⟩), .int .i64 k] w fun e w' => e = .returned (.tuple #[acv (acD l k), .bool (findA l k).isSome]) ∧ Below w.heap.size w w' := by
  have hz := blk_cells h.cell
  have hzl := blk_lt h.cell
  have hlk := lookA h hk (w.alloc (.cells #[.int .i64 0, .int .i64 0, .bool false] 79)) (fun b hb => Below.heap_alloc w _ b hb)
  have HB := Lib.hid (((Below.refl w.heap.size w).alloc (Nat.le_refl _) (.cells #[.int .i64 (acD l k).code, .int .i64 (acD l k).kind, .bool (acD l k).ret] 79)).alloc (by simp) (.cells #[.int .i64 (acD l k).code, .int .i64 (acD l k).kind, .bool (acD l k).ret] 79))
  clear h hk
  generalize acD l k = x at *
  generalize (findA l k).isSome = is at *
  obtain ⟨xc, xk, xr⟩ := x
  simp only at hlk HB
  go_enter Tryz.func135, Tryz.ntmps135
  go_wp2_with fail
  refine bodyPost_ret (v := .tuple #[acv ⟨xc, xk, xr⟩, .bool is]) (results_row_tmp (fn := Tryz.f135) (p := 4) (ty := 79) rfl _ _ w.heap.size 79 _ (0, 0) _ rfl (blk_alloc (blk_new w _) _) Tryz.underlying79 rfl (by kernel_rfl)) rfl ?_
  exact ⟨rfl, HB.out⟩
set_option maxHeartbeats 2000000 in
set_option maxRecDepth 100000 in
theorem chget_nil (w : World) (k : Int) :
    Calls Tryz.prog 135 #[.pointer none, .int .i64 k] w fun e w' => e = .returned (.tuple #[acv ac0, .bool false]) ∧ Below w.heap.size w w' := by
  have HB := Lib.hid ((Below.refl w.heap.size w).alloc (Nat.le_refl _) (.cells #[.int .i64 0, .int .i64 0, .bool false] 79))
  have HZ := Lib.hid (blk_new w (.cells #[.int .i64 0, .int .i64 0, .bool false] 79))
  go_enter Tryz.func135, Tryz.ntmps135
  go_wp2_with fail
  refine bodyPost_ret (v := .tuple #[acv ac0, .bool false]) (results_row_tmp (fn := Tryz.f135) (p := 4) (ty := 79) rfl _ _ w.heap.size 79 _ (0, 0) _ rfl (blk_new w _) Tryz.underlying79 rfl (by kernel_rfl)) rfl ?_
  exact ⟨rfl, HB.out⟩
end Go.Proofs.YtgggpaacagbmcaaGreat
