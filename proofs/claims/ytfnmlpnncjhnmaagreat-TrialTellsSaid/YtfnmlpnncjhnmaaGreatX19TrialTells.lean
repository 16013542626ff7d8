/- Ranging over maps in a plain walk; append of a slice that may be nil. -/
import Derived.Test.YtfnmlpnncjhnmaaGreatX03TrialTells
import Derived.Test.YtfnmlpnncjhnmaaGreatX12TrialTells
import Derived.Laws.AppendOwnNone
import Derived.Test.YtfnmlpnncjhnmaaGreatX18TrialTells
set_option linter.unusedVariables false
set_option linter.unusedSimpArgs false
namespace Go.Proofs.YtfnmlpnncjhnmaaGreat
open Go.RowKit Go.Maps

section
variable {P : Program} {t : TypeId} {κ ν : Type} {M : MK P t κ} {ev : ν → Value} {ops : Array Oper} {rest : List Oper} {o : Oper} {a : Act} {Q : Exit → Act → World → Prop} {w : World}
theorem wp_range (hg : o.guard = none) (m : Operand) (T : TypeId) (hop : o.op = Op.range T m) (e : TypeId) (ht : P.underlying T = some (.map t e)) (b : Nat) (l : List (κ × ν)) (hm : a.eval m = .map (some b)) (h : MapIs M ev w b l)
    (hK : ∀ w', Rng M ev w' b w.heap.size l [] → w.grownBy w' none → w'.heap.size = w.heap.size + 1 → wpList P ops Q rest (a.put o.dst (.pointer (some ⟨w.heap.size, 0, none⟩))) w') :
    wpList P ops Q (o :: rest) a w := by
  refine wpList_plain hg fun K' hK' => ?_
  obtain ⟨w', hrun, r1, r2, r3⟩ := h.range ht
  unfold Oper.wp
  simp [execOp, hop, hm, hrun, Result.andThen]
  exact hK' _ _ (hK w' r1 r2 r3)
theorem wp_next (hg : o.guard = none) (it : Operand) (hop : o.op = Op.next it false) (b r : Nat) (l : List (κ × ν)) (ss : List κ) (hit : a.eval it = .pointer (some ⟨r, 0, none⟩)) (h : Rng M ev w b r l ss)
    (hDone : ss.Perm (l.map (·.1)) → wpList P ops Q rest (a.put o.dst (.tuple #[.bool false])) w)
    (hMore : ∀ k v w', (k, v) ∈ l → Rng M ev w' b r l (ss ++ [k]) → w'.rangeLeft b r < w.rangeLeft b r → w.grownBy w' (some r) → w'.heap.size = w.heap.size →
      (Instr.entry (.pointer (some ⟨r, 0, none⟩))).run P w' = .ok (.tuple #[M.ek k, ev v]) w' → wpList P ops Q rest (a.put o.dst (.tuple #[.bool true, M.ek k, ev v])) w') :
    wpList P ops Q (o :: rest) a w := by
  refine wpList_plain hg fun K' hK' => ?_
  unfold Oper.wp
  rcases h.next o.type with ⟨h0, hrun⟩ | ⟨k, v, w', hkv, hrun, hrg, hlt, hgr, hsz, hen⟩
  · simp [execOp, hop, hit, hrun, Result.andThen]
    exact hK' _ _ (hDone h0)
  · simp [execOp, hop, hit, hrun, Result.andThen]
    exact hK' _ _ (hMore k v w' hkv hrg hlt hgr hsz hen)
end
section
variable {P : Program} {e : TypeId} {α : Type} {T : Ty P e α} {ops : Array Oper} {rest : List Oper} {o : Oper} {a : Act} {Q : Exit → Act → World → Prop} {w : World}
theorem wp_appA (hgd : o.guard = none) (s x : Operand) (t : TypeId) (ho : o.op = .call { callee := .builtin .append, args := #[s, x], argTypes := #[t, t] })
    (i : TypeInfo) (z : Value) (bytes : Nat) (ht : P.underlying t = some (.slice e)) (hi : P.info? e = some i) (hz : i.zero = some z) (hsize : i.size = T.n) (hby : i.bytes = bytes) (hzs : z.cells.size = T.n) (hsz : 0 < T.n)
    (h1c : ∀ (w : World) (F : Nat → Prop) (c : List Value) (x : α), T.R w F c x → ∀ u ∈ c, u.oneCell' = true)
    (base : Nat) (v : Value) (xs : List α) (hs : a.eval s = v) (hown : OwnL T w base v xs) (ad : Option Addr) (c : Nat) (ys : List α) (hx : a.eval x = .slice ad ys.length c) (hnil : ad = none → ys = [] ∧ c = 0)
    (hys : Sl T w (fun k => some k ≠ v.ownBlock ∧ k < w.heap.size) ad ys) (h63 : xs.length + ys.length ≤ maxLen) (hbytes : (xs.length + ys.length) * bytes ≤ 140737488355328) (hbase : base ≤ w.heap.size)
    (h : ∀ v' w', OwnL T w' base v' (xs ++ ys) → w.grownBy w' v.ownBlock → (v'.ownBlock = v.ownBlock ∨ v'.ownBlock = some w.heap.size) → wpList P ops Q rest (a.put o.dst v') w') :
    wpList P ops Q (o :: rest) a w := by
  cases ad with
  | some ad => exact wp_app hgd s x t ho i z bytes ht hi hz hsize hby hzs hsz h1c base v xs hs hown ad c ys hx hys h63 hbytes hbase (fun v' w' h1 h2 _ h4 => h v' w' h1 h2 h4)
  | none =>
    obtain ⟨rfl, rfl⟩ := hnil rfl
    obtain ⟨css, hr, h2⟩ := hown
    exact wpList_append_own_none hgd s x t ho base e i T.n ht hi v xs.length css.flatten hs hr hx (h v w (by rw [List.append_nil]; exact ⟨css, hr, h2⟩) ⟨rfl, rfl, rfl, Nat.le_refl _, fun _ _ _ => rfl⟩ (.inl rfl))
end
end Go.Proofs.YtfnmlpnncjhnmaaGreat


/- Charts of the document: a row, an account, a kind, one more account. -/
set_option linter.unusedVariables false
set_option linter.unusedSimpArgs false
namespace Go.Proofs.YtfnmlpnncjhnmaaGreat
open Go.RowKit Go.Maps Go.Deep

theorem three (w : World) (b : Nat) {t : TypeId} {x0 x1 x2 : Value} (h : w.heap[b]? = some (.cells #[x0, x1, x2] t (0, 0))) (v0 v1 v2 : Value) :
    ∃ w4, (((w.setCell ⟨b, 0, none⟩ v0).setCell ⟨b, 1, none⟩ v1).setCell ⟨b, 2, none⟩ v2) = w4 ∧ w4.heap[b]? = some (.cells #[v0, v1, v2] t (0, 0)) ∧ w4.heap.size = w.heap.size ∧
      (∀ k, k ≠ b → w4.heap[k]? = w.heap[k]?) ∧ (∀ B w0, Below B w0 w → B ≤ b → Below B w0 w4) := by
  refine ⟨_, rfl, ?_, by simp, fun k hk => ?_, fun B w0 hb hB => ?_⟩
  · have := blk_set (blk_set (blk_set h 0 v0) 1 v1) 2 v2
    simpa using this
  · iterate 3 (rw [Below.heap_setCell _ _ _ k hk])
  · iterate 3 (refine Below.setCell ?_ hB _)
    exact hb

theorem row_any (c k : Int) (w : World) {b : Bool} (h : rowB ⟨c, k, false⟩ = b) : Calls Tryz.prog 109 #[.int .i64 c, .int .i64 k] w fun e w' => e = .returned (.bool b) ∧ w' = w := by
  rcases rowB_cases h with ⟨rfl, h1, h2, h3, h4⟩ | ⟨rfl, h1 | ⟨h1, h2 | ⟨h2, h3 | ⟨h3, h4⟩⟩⟩⟩
  all_goals
    clear h
    go_enter Tryz.func109, Tryz.ntmps109
    go_wp2
    go_ret
    refine ⟨?_, rfl⟩
    first | rfl | (simp; omega)

def ac0 : Ac := ⟨0, 0, false⟩
def acD (l : List Ac) (c : Int) : Ac := (findA l c).getD ac0
theorem kindA_D (l : List Ac) (c : Int) : kindA l c = (acD l c).kind := by
  unfold kindA acD
  cases findA l c <;> rfl

set_option maxHeartbeats 2000000 in
set_option maxRecDepth 100000 in
theorem raccount_any (l : List Ac) (a : Option Addr) (cap : Nat) (c : Int) (w : World) {F : Nat → Prop} (hs : Sl tAc w F a l) (hl : l.length ≤ maxLen) :
    Calls Tryz.prog 139 #[.slice a l.length cap, .int .i64 c] w fun e w' => e = .returned (.tuple #[acv (acD l c), .bool (findA l c).isSome]) ∧ Below w.heap.size w w' := by
  have HS := Lib.hid hs
  have hl' : l.length ≤ 9223372036854775807 := by unfold maxLen at hl; omega
  clear hs hl
  have HB := Lib.hid ((Below.refl w.heap.size w).alloc (Nat.le_refl _) (.cells #[.int .i64 0, .int .i64 0, .bool false] 83))
  have HZ := Lib.hid (blk_new w (.cells #[.int .i64 0, .int .i64 0, .bool false] 83))
  go_enter Tryz.func139, Tryz.ntmps139
  go_wp2_with fail
  go_loopw [6] (fun vi wr => ∃ n : Nat, n ≤ l.length ∧ vi = .int .i64 n ∧ Hid ((l.take n).any (fun x => x.code = c) = false) ∧ wr = w.alloc (.cells #[.int .i64 0, .int .i64 0, .bool false] 83)) (fun vi _ => l.length - (intOf vi).toNat)
  case atStart => exact ⟨0, Nat.zero_le _, rfl, rfl, rfl⟩
  case round =>
    obtain ⟨n, hn, rfl, hany, hwr⟩ := hrel
    have HB1 : Hid (Below w.heap.size w wr) := by rw [hwr]; exact HB
    have HZ1 : Hid (wr.heap[w.heap.size]? = some (.cells #[.int .i64 0, .int .i64 0, .bool false] 83 (0, 0))) := by rw [hwr]; exact HZ
    have HWR := Lib.hid hwr
    clear hwr
    have hz := blk_cells HZ1.out
    have hzf := blk_frz HZ1.out
    have hzl := blk_lt HZ1.out
    by_cases hlt : n < l.length
    · obtain ⟨ad, rfl, _, hadl, hc0, hc1, hc2, _, _⟩ := ac_at (HS.out.keep fun k hk _ => HB1.out.block k hk) n hlt
      cases hv : (l[n].code == c)
      · have hd0 : decide (l[n].code = c) = false := by simpa using hv
        have hnext : (l.take (n + 1)).any (fun x => decide (x.code = c)) = false := by
          rw [any_take_succ _ l n hlt, hany.out, hd0]
          rfl
        clear hd0
        have HN := Lib.hid hnext
        clear hnext
        go_wp2_with fail
        go_roundw
        case rel => exact ⟨n + 1, by omega, by go_num, HN.out, HWR.out⟩
        case measure => simp [intOf]; omega
      · have hf : findA l c = some l[n] := find_first (fun x : Ac => decide (x.code = c)) l n hlt hany.out (by simpa using hv)
        have hd : acD l c = l[n] := by unfold acD; rw [hf]; rfl
        have HF := Lib.hid (And.intro hf hd)
        clear hf hd
        go_wp2_with fail
        obtain ⟨w4, hw4, h4, hs4, hk4, hb4⟩ := three wr w.heap.size HZ1.out (.int .i64 l[n].code) (.int .i64 l[n].kind) (.bool l[n].ret)
        rw [hw4]
        clear hw4
        refine bodyPost_ret (v := .tuple #[acv l[n], .bool true]) (results_row_tmp (fn := Tryz.f139) (p := 4) (ty := 83) rfl _ _ w.heap.size 83 _ (0, 0) _ rfl h4 Tryz.underlying83 rfl (by kernel_rfl)) rfl ?_
        exact ⟨by rw [HF.out.1, HF.out.2]; rfl, hb4 _ _ HB1.out (Nat.le_refl _)⟩
    · have hno : findA l c = none := by
        have := hany.out
        rw [take_all hn hlt] at this
        unfold findA
        rw [List.find?_eq_none]
        intro x hx he
        rw [List.any_eq_false] at this
        exact this x hx he
      have HNO := Lib.hid hno
      clear hno hany
      go_wp2_with fail
      obtain ⟨w4, hw4, h4, hs4, hk4, hb4⟩ := three wr w.heap.size HZ1.out (.int .i64 0) (.int .i64 0) (.bool false)
      rw [hw4]
      clear hw4
      refine bodyPost_ret (v := .tuple #[acv ac0, .bool false]) (results_row_tmp (fn := Tryz.f139) (p := 4) (ty := 83) rfl _ _ w.heap.size 83 _ (0, 0) _ rfl h4 Tryz.underlying83 rfl (by kernel_rfl)) rfl ?_
      exact ⟨by unfold acD; rw [HNO.out]; rfl, hb4 _ _ HB1.out (Nat.le_refl _)⟩

set_option maxHeartbeats 2000000 in
theorem r10kind_any (l : List Ac) (a : Option Addr) (cap : Nat) (c : Int) (w : World) {F : Nat → Prop} (hs : Sl tAc w F a l) (hl : l.length ≤ maxLen) :
    Calls Tryz.prog 90 #[.slice a l.length cap, .int .i64 c] w fun e w' => e = .returned (.int .i64 (kindA l c)) ∧ Below w.heap.size w w' := by
  have HC := Lib.hid (raccount_any l a cap c w hs hl)
  clear hs hl
  rw [kindA_D]
  go_enter Tryz.func90, Tryz.ntmps90
  go_wp2_with fail
  refine HC.out.mono ?_
  rintro e w1 ⟨rfl, hb⟩
  have HB := Lib.hid (hb.alloc hb.size (.cells #[.int .i64 (acD l c).code, .int .i64 (acD l c).kind, .bool (acD l c).ret] 83))
  clear hb
  go_wp2_with fail
  go_ret
  exact ⟨rfl, HB.out⟩
end Go.Proofs.YtfnmlpnncjhnmaaGreat


/- Charts: New, Get; a number in a list. -/
set_option linter.unusedVariables false
set_option linter.unusedSimpArgs false
namespace Go.Proofs.YtfnmlpnncjhnmaaGreat
open Go.RowKit Go.Maps Go.Deep

theorem index_any (l : List Int) (a : Option Addr) (cap : Nat) (v : Int) (w : World) {F : Nat → Prop} (hs : Sl tInt w F a l) (hl : l.length ≤ maxLen) :
    Calls Tryz.prog 167 #[.slice a l.length cap, .int .i64 v] w fun e w' => (∃ i : Int, e = .returned (.int .i64 i) ∧ decide (0 ≤ i) = l.contains v) ∧ w' = w := by
  have HS := Lib.hid hs
  have hl' : l.length ≤ 9223372036854775807 := by unfold maxLen at hl; omega
  clear hs hl
  go_enter Tryz.func167, Tryz.ntmps167
  go_wp2_with fail
  go_loopw [8] (fun vi wr => ∃ n : Nat, n ≤ l.length ∧ vi = .int .i64 n ∧ Hid (∀ i (hi : i < l.length), i < n → l[i] ≠ v) ∧ wr = w) (fun vi _ => l.length - (intOf vi).toNat)
  case atStart => exact ⟨0, Nat.zero_le _, rfl, Lib.hid (fun i _ h => by omega), rfl⟩
  case round =>
    obtain ⟨n, hn, rfl, hno, rfl⟩ := hrel
    by_cases hlt : n < l.length
    · obtain ⟨ad, rfl, hadl, hc0⟩ := int_at HS.out n hlt
      cases hv : (v == l[n])
      · have HN : Hid (∀ i (hi : i < l.length), i < n + 1 → l[i] ≠ v) := Lib.hid (fun i hi hin => by
          rcases Nat.lt_or_ge i n with h | h
          · exact hno.out i hi h
          · have : i = n := by omega
            subst this
            intro e
            rw [e] at hv
            simp at hv)
        go_wp2_with fail
        go_roundw
        case rel => exact ⟨n + 1, by omega, by go_num, HN, by first | rfl | trivial⟩
        case measure => simp [intOf]; omega
      · have HF : Hid (l.contains v = true) := Lib.hid (by
          have : v = l[n] := by simpa using hv
          rw [this]
          simp)
        go_wp2_with fail
        go_ret
        exact ⟨⟨n, rfl, by rw [HF.out]; simp⟩, rfl⟩
    · have HF : Hid (l.contains v = false) := Lib.hid (by
        rw [Bool.eq_false_iff]
        intro h
        rw [List.contains_iff_mem] at h
        obtain ⟨i, hi, he⟩ := List.mem_iff_getElem.1 h
        exact hno.out i hi (by omega) he)
      go_wp2_with fail
      go_ret
      exact ⟨⟨-1, rfl, by rw [HF.out]; rfl⟩, rfl⟩
theorem contains_any (l : List Int) (a : Option Addr) (cap : Nat) (v : Int) (w : World) {F : Nat → Prop} (hs : Sl tInt w F a l) (hl : l.length ≤ maxLen) {b : Bool} (hb : l.contains v = b) :
    Calls Tryz.prog 141 #[.slice a l.length cap, .int .i64 v] w fun e w' => e = .returned (.bool b) ∧ w' = w := by
  have HC := Lib.hid (index_any l a cap v w hs hl)
  have HB := Lib.hid hb
  clear hs hl hb
  go_enter Tryz.func141, Tryz.ntmps141
  go_wp2_with fail
  refine HC.out.mono ?_
  rintro e w1 ⟨⟨i, rfl, hi⟩, rfl⟩
  rw [HB.out] at hi
  have HI := Lib.hid hi
  clear hi
  go_wp2_with fail
  go_ret
  rw [← HI.out]
  exact ⟨rfl, rfl⟩

/-- block g is a chart of accounts -/
structure ChartAt (w : World) (g : Nat) (mb : Option Nat) (l : List Ac) : Prop where
  cell : w.heap[g]? = some (.cells #[.map mb] 218 (0, 0))
  none : mb = none → l = []
  some : ∀ b, mb = some b → MapIs mInt acv w b (codesOf l) ∧ b ≠ g
theorem ChartAt.below {w w' : World} {g : Nat} {mb : Option Nat} {l : List Ac} (h : ChartAt w g mb l) (hb : Below w.heap.size w w') : ChartAt w' g mb l :=
  ⟨blk_below h.cell hb, h.none, fun b e => ⟨(h.some b e).1.keep (hb.block b (h.some b e).1.lt), (h.some b e).2⟩⟩
theorem zeroA (w : World) : (zeroValue 83).run Tryz.prog w = .ok (acv ac0) w := by kernel_rfl
theorem lookA {w : World} {g : Nat} {mb : Option Nat} {l : List Ac} (h : ChartAt w g mb l) {k : Int} (hk : I64 k) (W : World) (hW : ∀ b, b < w.heap.size → W.heap[b]? = w.heap[b]?) :
    (Instr.lookup 216 (.map mb) (.int .i64 k) true).run Tryz.prog W = .ok (.tuple #[acv (acD l k), .bool (findA l k).isSome]) W := by
  cases mb with
  | none =>
    obtain rfl := h.none rfl
    have := lookup_nil mInt (w := W) Tryz.underlying216 (k := k) hk (zeroA W) true
    exact this
  | some b =>
    have h1 := (h.some b rfl).1
    have := (h1.keep (w' := W) (hW b h1.lt)).lookup_ok Tryz.underlying216 (k := k) hk (zeroA W)
    rw [look_codes] at this
    rw [show mInt.ek k = .int .i64 k from rfl] at this
    rw [this]
    unfold acD
    cases findA l k <;> rfl

set_option maxHeartbeats 2000000 in
set_option maxRecDepth 100000 in
theorem chget_any {w : World} {g : Nat} {mb : Option Nat} {l : List Ac} (h : ChartAt w g mb l) (k : Int) (hk : I64 k) :
    Calls Tryz.prog 140 #[.pointer (some ⟨g, 0, none⟩), .int .i64 k] w fun e w' => e = .returned (.tuple #[acv (acD l k), .bool (findA l k).isSome]) ∧ Below w.heap.size w w' := by
  have hz := blk_cells h.cell
  have hzl := blk_lt h.cell
  have hlk := lookA h hk (w.alloc (.cells #[.int .i64 0, .int .i64 0, .bool false] 83)) (fun b hb => Below.heap_alloc w _ b hb)
  have HB := Lib.hid (((Below.refl w.heap.size w).alloc (Nat.le_refl _) (.cells #[.int .i64 (acD l k).code, .int .i64 (acD l k).kind, .bool (acD l k).ret] 83)).alloc (by simp) (.cells #[.int .i64 (acD l k).code, .int .i64 (acD l k).kind, .bool (acD l k).ret] 83))
  clear h hk
  generalize acD l k = x at *
  generalize (findA l k).isSome = is at *
  obtain ⟨xc, xk, xr⟩ := x
  simp only at hlk HB
  go_enter Tryz.func140, Tryz.ntmps140
  go_wp2_with fail
  refine bodyPost_ret (v := .tuple #[acv ⟨xc, xk, xr⟩, .bool is]) (results_row_tmp (fn := Tryz.f140) (p := 4) (ty := 83) rfl _ _ w.heap.size 83 _ (0, 0) _ rfl (blk_alloc (blk_new w _) _) Tryz.underlying83 rfl (by kernel_rfl)) rfl ?_
  exact ⟨rfl, HB.out⟩
set_option maxHeartbeats 2000000 in
set_option maxRecDepth 100000 in
theorem chget_nil (w : World) (k : Int) :
    Calls Tryz.prog 140 #[.pointer none, .int .i64 k] w fun e w' => e = .returned (.tuple #[acv ac0, .bool false]) ∧ Below w.heap.size w w' := by
  have HB := Lib.hid ((Below.refl w.heap.size w).alloc (Nat.le_refl _) (.cells #[.int .i64 0, .int .i64 0, .bool false] 83))
  have HZ := Lib.hid (blk_new w (.cells #[.int .i64 0, .int .i64 0, .bool false] 83))
  go_enter Tryz.func140, Tryz.ntmps140
  go_wp2_with fail
  refine bodyPost_ret (v := .tuple #[acv ac0, .bool false]) (results_row_tmp (fn := Tryz.f140) (p := 4) (ty := 83) rfl _ _ w.heap.size 83 _ (0, 0) _ rfl (blk_new w _) Tryz.underlying83 rfl (by kernel_rfl)) rfl ?_
  exact ⟨rfl, HB.out⟩
end Go.Proofs.YtfnmlpnncjhnmaaGreat
