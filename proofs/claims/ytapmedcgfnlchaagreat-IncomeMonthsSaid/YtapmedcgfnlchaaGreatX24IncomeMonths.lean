/- Ranging over maps in a plain walk; append of a slice that may be nil. -/
import Derived.Test.YtapmedcgfnlchaaGreatX03IncomeMonths
import Derived.Test.YtapmedcgfnlchaaGreatX13IncomeMonths
import Derived.Laws.AppendOwnNone
import Derived.Test.YtapmedcgfnlchaaGreatX23IncomeMonths
import Derived.Test.YtapmedcgfnlchaaGreatX19IncomeMonths
import Derived.Test.YtapmedcgfnlchaaGreatX21IncomeMonths
import Derived.Test.YtapmedcgfnlchaaGreatX20IncomeMonths
set_option linter.unusedVariables false
set_option linter.unusedSimpArgs false
namespace Go.Proofs.YtapmedcgfnlchaaGreat
open Go.RowKit Go.Maps

section
variable {P : Program} {t : TypeId} {κ ν : Type} {M : MK P t κ} {ev : ν → Value} {ops : Array Oper} {rest : List Oper} {o : Oper} {a : Act} {Q : Exit → Act → World → Prop} {w : World}
theorem wp_range (hg : o.guard = none) (m : Operand) (T : TypeId) (hop : o.op = Op.range T m) (e : TypeId) (ht : P.underlying T = some (.map t e)) (b : Nat) (l : List (κ × ν)) (hm : a.eval m = .map (some b)) (h : MapIs M ev w b l)
    (hK : ∀ w', Rng M ev w' b w.heap.size l [] → w.grownBy w' none → w'.heap.size = w.heap.size + 1 → wpList P ops Q rest (a.put o.dst (.pointer (some ⟨w.heap.size, 0, none⟩))) w') :
    wpList P ops Q (o :: rest) a w := by
  refine wpList_plain hg fun K' hK' => ?_
  obtain ⟨w', hrun, r1, r2, r3⟩ := h.range ht
  unfold Oper.wp
  simp [execOp, hop, hm, hrun, Result.andThen]
  exact hK' _ _ (hK w' r1 r2 r3)
theorem wp_next (hg : o.guard = none) (it : Operand) (hop : o.op = Op.next it false) (b r : Nat) (l : List (κ × ν)) (ss : List κ) (hit : a.eval it = .pointer (some ⟨r, 0, none⟩)) (h : Rng M ev w b r l ss)
    (hDone : ss.Perm (l.map (·.1)) → wpList P ops Q rest (a.put o.dst (.tuple #[.bool false])) w)
    (hMore : ∀ k v w', (k, v) ∈ l → Rng M ev w' b r l (ss ++ [k]) → w'.rangeLeft b r < w.rangeLeft b r → w.grownBy w' (some r) → w'.heap.size = w.heap.size →
      (Instr.entry (.pointer (some ⟨r, 0, none⟩))).run P w' = .ok (.tuple #[M.ek k, ev v]) w' → wpList P ops Q rest (a.put o.dst (.tuple #[.bool true, M.ek k, ev v])) w') :
    wpList P ops Q (o :: rest) a w := by
  refine wpList_plain hg fun K' hK' => ?_
  unfold Oper.wp
  rcases h.next o.type with ⟨h0, hrun⟩ | ⟨k, v, w', hkv, hrun, hrg, hlt, hgr, hsz, hen⟩
  · simp [execOp, hop, hit, hrun, Result.andThen]
    exact hK' _ _ (hDone h0)
  · simp [execOp, hop, hit, hrun, Result.andThen]
    exact hK' _ _ (hMore k v w' hkv hrg hlt hgr hsz hen)
end
section
variable {P : Program} {e : TypeId} {α : Type} {T : Ty P e α} {ops : Array Oper} {rest : List Oper} {o : Oper} {a : Act} {Q : Exit → Act → World → Prop} {w : World}
theorem wp_appA (hgd : o.guard = none) (s x : Operand) (t : TypeId) (ho : o.op = .call { callee := .builtin .append, args := #[s, x], argTypes := #[t, t] })
    (i : TypeInfo) (z : Value) (bytes : Nat) (ht : P.underlying t = some (.slice e)) (hi : P.info? e = some i) (hz : i.zero = some z) (hsize : i.size = T.n) (hby : i.bytes = bytes) (hzs : z.cells.size = T.n) (hsz : 0 < T.n)
    (h1c : ∀ (w : World) (F : Nat → Prop) (c : List Value) (x : α), T.R w F c x → ∀ u ∈ c, u.oneCell' = true)
    (base : Nat) (v : Value) (xs : List α) (hs : a.eval s = v) (hown : OwnL T w base v xs) (ad : Option Addr) (c : Nat) (ys : List α) (hx : a.eval x = .slice ad ys.length c) (hnil : ad = none → ys = [] ∧ c = 0)
    (hys : Sl T w (fun k => some k ≠ v.ownBlock ∧ k < w.heap.size) ad ys) (h63 : xs.length + ys.length ≤ maxLen) (hbytes : (xs.length + ys.length) * bytes ≤ 140737488355328) (hbase : base ≤ w.heap.size)
    (h : ∀ v' w', OwnL T w' base v' (xs ++ ys) → w.grownBy w' v.ownBlock → (v'.ownBlock = v.ownBlock ∨ v'.ownBlock = some w.heap.size) → wpList P ops Q rest (a.put o.dst v') w') :
    wpList P ops Q (o :: rest) a w := by
  cases ad with
  | some ad => exact wp_app hgd s x t ho i z bytes ht hi hz hsize hby hzs hsz h1c base v xs hs hown ad c ys hx hys h63 hbytes hbase (fun v' w' h1 h2 _ h4 => h v' w' h1 h2 h4)
  | none =>
    obtain ⟨rfl, rfl⟩ := hnil rfl
    obtain ⟨css, hr, h2⟩ := hown
    exact wpList_append_own_none hgd s x t ho base e i T.n ht hi v xs.length css.flatten hs hr hx (h v w (by rw [List.append_nil]; exact ⟨css, hr, h2⟩) ⟨rfl, rfl, rfl, Nat.le_refl _, fun _ _ _ => rfl⟩ (.inl rfl))
end
end Go.Proofs.YtapmedcgfnlchaaGreat


/- Charts of the document: a row, an account, a kind, one more account. -/
set_option linter.unusedVariables false
set_option linter.unusedSimpArgs false
namespace Go.Proofs.YtapmedcgfnlchaaGreat
open Go.RowKit Go.Maps Go.Deep

theorem three (w : World) (b : Nat) {t : TypeId} {x0 x1 x2 : Value} (h : w.heap[b]? = some (.cells #[x0, x1, x2] t (0, 0))) (v0 v1 v2 : Value) :
    ∃ w4, (((w.setCell ⟨b, 0, none⟩ v0).setCell ⟨b, 1, none⟩ v1).setCell ⟨b, 2, none⟩ v2) = w4 ∧ w4.heap[b]? = some (.cells #[v0, v1, v2] t (0, 0)) ∧ w4.heap.size = w.heap.size ∧
      (∀ k, k ≠ b → w4.heap[k]? = w.heap[k]?) ∧ (∀ B w0, Below B w0 w → B ≤ b → Below B w0 w4) := by
  refine ⟨_, rfl, ?_, by simp, fun k hk => ?_, fun B w0 hb hB => ?_⟩
  · have := blk_set (blk_set (blk_set h 0 v0) 1 v1) 2 v2
    simpa using this
  · iterate 3 (rw [Below.heap_setCell _ _ _ k hk])
  · iterate 3 (refine Below.setCell ?_ hB _)
    exact hb

theorem row_any (c k : Int) (w : World) {b : Bool} (h : rowB ⟨c, k, false⟩ = b) : Calls Tryz.prog 51 #[.int .i64 c, .int .i64 k] w fun e w' => e = .returned (.bool b) ∧ w' = w := by
  rcases rowB_cases h with ⟨rfl, h1, h2, h3, h4⟩ | ⟨rfl, h1 | ⟨h1, h2 | ⟨h2, h3 | ⟨h3, h4⟩⟩⟩⟩
  all_goals
    clear h
    go_enter Tryz.func51, Tryz.ntmps51
    go_wp2
    go_ret
    refine ⟨?_, rfl⟩
    first | rfl | (simp; omega)

def ac0 : Ac := ⟨0, 0, false⟩
def acD (l : List Ac) (c : Int) : Ac := (findA l c).getD ac0
theorem kindA_D (l : List Ac) (c : Int) : kindA l c = (acD l c).kind := by
  unfold kindA acD
  cases findA l c <;> rfl

set_option maxHeartbeats 2000000 in
set_option maxRecDepth 100000 in
theorem raccount_any (l : List Ac) (a : Option Addr) (cap : Nat) (c : Int) (w : World) {F : Nat → Prop} (hs : Sl tAc w F a l) (hl : l.length ≤ maxLen) :
    Calls Tryz.prog 95 #[.slice a l.length cap, .int .i64 c] w fun e w' => e = .returned (.tuple #[acv (acD l c), .bool (findA l c).isSome]) ∧ Below w.heap.size w w' := by
  have HS := Lib.hid hs
  have hl' : l.length ≤ 9223372036854775807 := by unfold maxLen at hl; omega
  clear hs hl
  have HB := Lib.hid ((Below.refl w.heap.size w).alloc (Nat.le_refl _) (.cells #[.int .i64 0, .int .i64 0, .bool false] 53))
  have HZ := Lib.hid (blk_new w (.cells #[.int .i64 0, .int .i64 0, .bool false] 53))
  go_enter Tryz.func95, Tryz.ntmps95
  go_wp2_with fail
  go_loopw [6] (fun vi wr => ∃ n : Nat, n ≤ l.length ∧ vi = .int .i64 n ∧ Hid ((l.take n).any (fun x => x.code = c) = false) ∧ wr = w.alloc (.cells #[.int .i64 0, .int .i64 0, .bool false] 53)) (fun vi _ => l.length - (intOf vi).toNat)
  case atStart => exact ⟨0, Nat.zero_le _, rfl, rfl, rfl⟩
  case round =>
    obtain ⟨n, hn, rfl, hany, hwr⟩ := hrel
    have HB1 : Hid (Below w.heap.size w wr) := by rw [hwr]; exact HB
    have HZ1 : Hid (wr.heap[w.heap.size]? = some (.cells #[.int .i64 0, .int .i64 0, .bool false] 53 (0, 0))) := by rw [hwr]; exact HZ
    have HWR := Lib.hid hwr
    clear hwr
    have hz := blk_cells HZ1.out
    have hzf := blk_frz HZ1.out
    have hzl := blk_lt HZ1.out
    by_cases hlt : n < l.length
    · obtain ⟨ad, rfl, _, hadl, hc0, hc1, hc2, _, _⟩ := ac_at (HS.out.keep fun k hk _ => HB1.out.block k hk) n hlt
      cases hv : (l[n].code == c)
      · have hd0 : decide (l[n].code = c) = false := by simpa using hv
        have hnext : (l.take (n + 1)).any (fun x => decide (x.code = c)) = false := by
          rw [any_take_succ _ l n hlt, hany.out, hd0]
          rfl
        clear hd0
        have HN := Lib.hid hnext
        clear hnext
        go_wp2_with fail
        go_roundw
        case rel => exact ⟨n + 1, by omega, by go_num, HN.out, HWR.out⟩
        case measure => simp [intOf]; omega
      · have hf : findA l c = some l[n] := find_first (fun x : Ac => decide (x.code = c)) l n hlt hany.out (by simpa using hv)
        have hd : acD l c = l[n] := by unfold acD; rw [hf]; rfl
        have HF := Lib.hid (And.intro hf hd)
        clear hf hd
        go_wp2_with fail
        obtain ⟨w4, hw4, h4, hs4, hk4, hb4⟩ := three wr w.heap.size HZ1.out (.int .i64 l[n].code) (.int .i64 l[n].kind) (.bool l[n].ret)
        rw [hw4]
        clear hw4
        refine bodyPost_ret (v := .tuple #[acv l[n], .bool true]) (results_row_tmp (fn := Tryz.f95) (p := 4) (ty := 53) rfl _ _ w.heap.size 53 _ (0, 0) _ rfl h4 Tryz.underlying53 rfl (by kernel_rfl)) rfl ?_
        exact ⟨by rw [HF.out.1, HF.out.2]; rfl, hb4 _ _ HB1.out (Nat.le_refl _)⟩
    · have hno : findA l c = none := by
        have := hany.out
        rw [take_all hn hlt] at this
        unfold findA
        rw [List.find?_eq_none]
        intro x hx he
        rw [List.any_eq_false] at this
        exact this x hx he
      have HNO := Lib.hid hno
      clear hno hany
      go_wp2_with fail
      obtain ⟨w4, hw4, h4, hs4, hk4, hb4⟩ := three wr w.heap.size HZ1.out (.int .i64 0) (.int .i64 0) (.bool false)
      rw [hw4]
      clear hw4
      refine bodyPost_ret (v := .tuple #[acv ac0, .bool false]) (results_row_tmp (fn := Tryz.f95) (p := 4) (ty := 53) rfl _ _ w.heap.size 53 _ (0, 0) _ rfl h4 Tryz.underlying53 rfl (by kernel_rfl)) rfl ?_
      exact ⟨by unfold acD; rw [HNO.out]; rfl, hb4 _ _ HB1.out (Nat.le_refl _)⟩

set_option maxHeartbeats 2000000 in
theorem r10kind_any (l : List Ac) (a : Option Addr) (cap : Nat) (c : Int) (w : World) {F : Nat → Prop} (hs : Sl tAc w F a l) (hl : l.length ≤ maxLen) :
    Calls Tryz.prog 66 #[.slice a l.length cap, .int .i64 c] w fun e w' => e = .returned (.int .i64 (kindA l c)) ∧ Below w.heap.size w w' := by
  have HC := Lib.hid (raccount_any l a cap c w hs hl)
  clear hs hl
  rw [kindA_D]
  go_enter Tryz.func66, Tryz.ntmps66
  go_wp2_with fail
  refine HC.out.mono ?_
  rintro e w1 ⟨rfl, hb⟩
  have HB := Lib.hid (hb.alloc hb.size (.cells #[.int .i64 (acD l c).code, .int .i64 (acD l c).kind, .bool (acD l c).ret] 53))
  clear hb
  go_wp2_with fail
  go_ret
  exact ⟨rfl, HB.out⟩
end Go.Proofs.YtapmedcgfnlchaaGreat


/- Charts: New, Get; a number in a list. -/
set_option linter.unusedVariables false
set_option linter.unusedSimpArgs false
namespace Go.Proofs.YtapmedcgfnlchaaGreat
open Go.RowKit Go.Maps Go.Deep

theorem index_any (l : List Int) (a : Option Addr) (cap : Nat) (v : Int) (w : World) {F : Nat → Prop} (hs : Sl tInt w F a l) (hl : l.length ≤ maxLen) :
    Calls Tryz.prog 108 #[.slice a l.length cap, .int .i64 v] w fun e w' => (∃ i : Int, e = .returned (.int .i64 i) ∧ decide (0 ≤ i) = l.contains v) ∧ w' = w := by
  have HS := Lib.hid hs
  have hl' : l.length ≤ 9223372036854775807 := by unfold maxLen at hl; omega
  clear hs hl
  go_enter Tryz.func108, Tryz.ntmps108
  go_wp2_with fail
  go_loopw [8] (fun vi wr => ∃ n : Nat, n ≤ l.length ∧ vi = .int .i64 n ∧ Hid (∀ i (hi : i < l.length), i < n → l[i] ≠ v) ∧ wr = w) (fun vi _ => l.length - (intOf vi).toNat)
  case atStart => exact ⟨0, Nat.zero_le _, rfl, Lib.hid (fun i _ h => by omega), rfl⟩
  case round =>
    obtain ⟨n, hn, rfl, hno, rfl⟩ := hrel
    by_cases hlt : n < l.length
    · obtain ⟨ad, rfl, hadl, hc0⟩ := int_at HS.out n hlt
      cases hv : (v == l[n])
      · have HN : Hid (∀ i (hi : i < l.length), i < n + 1 → l[i] ≠ v) := Lib.hid (fun i hi hin => by
          rcases Nat.lt_or_ge i n with h | h
          · exact hno.out i hi h
          · have : i = n := by omega
            subst this
            intro e
            rw [e] at hv
            simp at hv)
        go_wp2_with fail
        go_roundw
        case rel => exact ⟨n + 1, by omega, by go_num, HN, by first | rfl | trivial⟩
        case measure => simp [intOf]; omega
      · have HF : Hid (l.contains v = true) := Lib.hid (by
          have : v = l[n] := by simpa using hv
          rw [this]
          simp)
        go_wp2_with fail
        go_ret
        exact ⟨⟨n, rfl, by rw [HF.out]; simp⟩, rfl⟩
    · have HF : Hid (l.contains v = false) := Lib.hid (by
        rw [Bool.eq_false_iff]
        intro h
        rw [List.contains_iff_mem] at h
        obtain ⟨i, hi, he⟩ := List.mem_iff_getElem.1 h
        exact hno.out i hi (by omega) he)
      go_wp2_with fail
      go_ret
      exact ⟨⟨-1, rfl, by rw [HF.out]; rfl⟩, rfl⟩
theorem contains_any (l : List Int) (a : Option Addr) (cap : Nat) (v : Int) (w : World) {F : Nat → Prop} (hs : Sl tInt w F a l) (hl : l.length ≤ maxLen) {b : Bool} (hb : l.contains v = b) :
    Calls Tryz.prog 93 #[.slice a l.length cap, .int .i64 v] w fun e w' => e = .returned (.bool b) ∧ w' = w := by
  have HC := Lib.hid (index_any l a cap v w hs hl)
  have HB := Lib.hid hb
  clear hs hl hb
  go_enter Tryz.func93, Tryz.ntmps93
  go_wp2_with fail
  refine HC.out.mono ?_
  rintro e w1 ⟨⟨i, rfl, hi⟩, rfl⟩
  rw [HB.out] at hi
  have HI := Lib.hid hi
  clear hi
  go_wp2_with fail
  go_ret
  rw [← HI.out]
  exact ⟨rfl, rfl⟩

/-- block g is a chart of accounts -/
structure ChartAt (w : World) (g : Nat) (mb : Option Nat) (l : List Ac) : Prop where
  cell : w.heap[g]? = some (.cells #[.map mb] 148 (0, 0))
  none : mb = none → l = []
  some : ∀ b, mb = some b → MapIs mInt acv w b (codesOf l) ∧ b ≠ g
theorem ChartAt.below {w w' : World} {g : Nat} {mb : Option Nat} {l : List Ac} (h : ChartAt w g mb l) (hb : Below w.heap.size w w') : ChartAt w' g mb l :=
  ⟨blk_below h.cell hb, h.none, fun b e => ⟨(h.some b e).1.keep (hb.block b (h.some b e).1.lt), (h.some b e).2⟩⟩
theorem zeroA (w : World) : (zeroValue 53).run Tryz.prog w = .ok (acv ac0) w := by kernel_rfl
theorem lookA {w : World} {g : Nat} {mb : Option Nat} {l : List Ac} (h : ChartAt w g mb l) {k : Int} (hk : I64 k) (W : World) (hW : ∀ b, b < w.heap.size → W.heap[b]? = w.heap[b]?) :
    (Instr.lookup 146 (.map mb) (.int .i64 k) true).run Tryz.prog W = .ok (.tuple #[acv (acD l k), .bool (findA l k).isSome]) W := by
  cases mb with
  | none =>
    obtain rfl := h.none rfl
    have := lookup_nil mInt (w := W) Tryz.underlying146 (k := k) hk (zeroA W) true
    exact this
  | some b =>
    have h1 := (h.some b rfl).1
    have := (h1.keep (w' := W) (hW b h1.lt)).lookup_ok Tryz.underlying146 (k := k) hk (zeroA W)
    rw [look_codes] at this
    rw [show mInt.ek k = .int .i64 k from rfl] at this
    rw [this]
    unfold acD
    cases findA l k <;> rfl

set_option maxHeartbeats 2000000 in
set_option maxRecDepth 100000 in
theorem chget_any {w : World} {g : Nat} {mb : Option Nat} {l : List Ac} (h : ChartAt w g mb l) (k : Int) (hk : I64 k) :
    Calls Tryz.prog 71 #[.pointer (some ⟨g, 0, none⟩), .int .i64 k] w fun e w' => e = .returned (.tuple #[acv (acD l k), .bool (findA l k).isSome]) ∧ Below w.heap.size w w' := by
  have hz := blk_cells h.cell
  have hzl := blk_lt h.cell
  have hlk := lookA h hk (w.alloc (.cells #[.int .i64 0, .int .i64 0, .bool false] 53)) (fun b hb => Below.heap_alloc w _ b hb)
  have HB := Lib.hid (((Below.refl w.heap.size w).alloc (Nat.le_refl _) (.cells #[.int .i64 (acD l k).code, .int .i64 (acD l k).kind, .bool (acD l k).ret] 53)).alloc (by simp) (.cells #[.int .i64 (acD l k).code, .int .i64 (acD l k).kind, .bool (acD l k).ret] 53))
  clear h hk
  generalize acD l k = x at *
  generalize (findA l k).isSome = is at *
  obtain ⟨xc, xk, xr⟩ := x
  simp only at hlk HB
  go_enter Tryz.func71, Tryz.ntmps71
  go_wp2_with fail
  refine bodyPost_ret (v := .tuple #[acv ⟨xc, xk, xr⟩, .bool is]) (results_row_tmp (fn := Tryz.f71) (p := 4) (ty := 53) rfl _ _ w.heap.size 53 _ (0, 0) _ rfl (blk_alloc (blk_new w _) _) Tryz.underlying53 rfl (by kernel_rfl)) rfl ?_
  exact ⟨rfl, HB.out⟩
set_option maxHeartbeats 2000000 in
set_option maxRecDepth 100000 in
theorem chget_nil (w : World) (k : Int) :
    Calls Tryz.prog 71 #[.pointer none, .int .i64 k] w fun e w' => e = .returned (.tuple #[acv ac0, .bool false]) ∧ Below w.heap.size w w' := by
  have HB := Lib.hid ((Below.refl w.heap.size w).alloc (Nat.le_refl _) (.cells #[.int .i64 0, .int .i64 0, .bool false] 53))
  have HZ := Lib.hid (blk_new w (.cells #[.int .i64 0, .int .i64 0, .bool false] 53))
  go_enter Tryz.func71, Tryz.ntmps71
  go_wp2_with fail
  refine bodyPost_ret (v := .tuple #[acv ac0, .bool false]) (results_row_tmp (fn := Tryz.f71) (p := 4) (ty := 53) rfl _ _ w.heap.size 53 _ (0, 0) _ rfl (blk_new w _) Tryz.underlying53 rfl (by kernel_rfl)) rfl ?_
  exact ⟨rfl, HB.out⟩
end Go.Proofs.YtapmedcgfnlchaaGreat


/- variorumbook: SameBalances, SamePairs. -/
set_option linter.unusedVariables false
set_option linter.unusedSimpArgs false
namespace Go.Proofs.YtapmedcgfnlchaaGreat
open Go.RowKit Go.Maps

theorem take_eq_succ {α : Type} {a b : List α} {n : Nat} (h : a.take n = b.take n) (h1 : n < a.length) (h2 : n < b.length) (he : a[n] = b[n]) : a.take (n + 1) = b.take (n + 1) := by
  rw [List.take_succ_eq_append_getElem h1, List.take_succ_eq_append_getElem h2, h, he]
theorem ne_at {α : Type} {a b : List α} {n : Nat} (h1 : n < a.length) (h2 : n < b.length) (he : a[n] ≠ b[n]) : a ≠ b := by
  rintro rfl
  exact he rfl

end Go.Proofs.YtapmedcgfnlchaaGreat


/- variorumbook: copies of balances, lent ones, whether they stay. -/
set_option linter.unusedVariables false
set_option linter.unusedSimpArgs false
namespace Go.Proofs.YtapmedcgfnlchaaGreat
open Go.RowKit Go.Maps

theorem OwnL.form {P : Program} {e : TypeId} {α : Type} {T : Ty P e α} {w : World} {base : Nat} {v : Value} {xs : List α} (h : OwnL T w base v xs) :
    (v = .slice none 0 0 ∧ xs = []) ∨ ∃ g cap, v = .slice (some ⟨g, 0, none⟩) xs.length cap ∧ xs.length ≤ cap ∧ cap ≤ maxLen := h.ownF.form
theorem form_snoc {P : Program} {e : TypeId} {α : Type} {T : Ty P e α} {w : World} {base : Nat} {v : Value} {xs : List α} {x : α} (h : OwnL T w base v (xs ++ [x])) : ∃ g c, v = .slice (some ⟨g, 0, none⟩) (xs.length + 1) c ∧ xs.length + 1 ≤ c ∧ c ≤ maxLen := by
  rcases h.form with ⟨_, h⟩ | ⟨g, c, h1, h2, h3⟩
  · simp at h
  · rw [List.length_append] at h1 h2
    exact ⟨g, c, h1, h2, h3⟩
theorem Sl.left {P : Program} {e : TypeId} {α : Type} {T : Ty P e α} {w : World} {F : Nat → Prop} {a : Option Addr} {xs ys : List α} (h : Sl T w F a (xs ++ ys)) : Sl T w F a xs := by
  intro i x hx
  exact h i x (by rw [List.getElem?_append_left (List.getElem?_eq_some_iff.1 hx).1]; exact hx)

/-- a list with room behind it, in which a mark stands -/
def LentB (w : World) (base : Nat) (v : Value) (l : List (Int × Int)) : Prop := ∃ g cap, v = .slice (some ⟨g, 0, none⟩) l.length cap ∧ l.length + 1 ≤ cap ∧ cap ≤ maxLen ∧ OwnL tBal w base (.slice (some ⟨g, 0, none⟩) (l.length + 1) cap) (l ++ [(77, 0)])
theorem LentB.below {w w' : World} {base : Nat} {v : Value} {l : List (Int × Int)} (h : LentB w base v l) (hb : Below w.heap.size w w') : LentB w' base v l := by
  obtain ⟨g, cap, h1, h2, h3, h4⟩ := h
  exact ⟨g, cap, h1, h2, h3, h4.below hb⟩

end Go.Proofs.YtapmedcgfnlchaaGreat


/- The first call of law 10 is as the document fixes it. -/
set_option linter.unusedVariables false
set_option linter.unusedSimpArgs false
namespace Go.Proofs.YtapmedcgfnlchaaGreat
open Go.RowKit Go.Maps

theorem sl_lines2 {w : World} {F : Nat → Prop} {b : Nat} (x y : Ln) (hb : w.heap[b]? = some (.cells #[.int .i64 x.acc, .int .i64 x.amt, .int .i64 x.par, .int .i64 y.acc, .int .i64 y.amt, .int .i64 y.par] 57 (0, 0))) (hF : F b)
    (hx : I64 x.acc ∧ I64 x.amt ∧ I64 x.par) (hy : I64 y.acc ∧ I64 y.amt ∧ I64 y.par) : Sl tLn w F (some ⟨b, 0, none⟩) [x, y] := by
  have hlt : b < w.heap.size := (Array.getElem?_eq_some_iff.1 hb).1
  have hcell := fun o => cell_of_row w b o _ 57 (0, 0) hb
  intro i u hi
  match i, hi with
  | 0, hi =>
    simp at hi; subst hi
    refine ⟨_, [.int .i64 x.acc, .int .i64 x.amt, .int .i64 x.par], rfl, hF, hlt, fun j v hv => ?_, ln_mk x hx.1 hx.2.1 hx.2.2⟩
    match j, hv with
    | 0, hv => simp at hv; subst hv; exact hcell 0
    | 1, hv => simp at hv; subst hv; exact hcell 1
    | 2, hv => simp at hv; subst hv; exact hcell 2
  | 1, hi =>
    simp at hi; subst hi
    refine ⟨_, [.int .i64 y.acc, .int .i64 y.amt, .int .i64 y.par], rfl, hF, hlt, fun j v hv => ?_, ln_mk y hy.1 hy.2.1 hy.2.2⟩
    match j, hv with
    | 0, hv => simp at hv; subst hv; exact hcell 3
    | 1, hv => simp at hv; subst hv; exact hcell 4
    | 2, hv => simp at hv; subst hv; exact hcell 5

def aliveJ : Jn := ⟨1, 1, 3, ⟨#[]⟩, [⟨100, 5, 0⟩, ⟨200, -5, 0⟩], false⟩
theorem alive_chk : chk aliveJ = 0 := by decide +kernel
theorem alive_val : ValJ [aliveJ] := ⟨by simp, by intro x hx; simp at hx; subst hx; exact alive_chk, by
  intro x hx
  simp at hx
  subst hx
  simp [takenJ, aliveJ], by simp⟩
theorem srt_id {l : List Int} (h : l.Pairwise (fun a b => decide (a ≤ b) = true)) : srt l = l := List.mergeSort_of_pairwise h
theorem alive_acc : accS [] (linesOf [aliveJ] 1 0 5) = [(100, 5), (200, -5)] := by decide +kernel
theorem alive_bal : balT [aliveJ] 1 0 5 = ([(100, 5), (200, -5)], 0) := by
  have h1 : accR [aliveJ] 1 0 5 = [(100, 5), (200, -5)] := by
    unfold accR tellS
    rw [alive_acc]
    have : srt ([((100 : Int), (5 : Int)), (200, -5)].map (·.1)) = [100, 200] := srt_id (l := [100, 200]) (by simp)
    rw [this]
    decide +kernel
  unfold balT
  rw [h1]
  decide +kernel

theorem alive_sl (W : World) (c0 : W.heap.size = W.heap.size) : True := trivial
end Go.Proofs.YtapmedcgfnlchaaGreat
