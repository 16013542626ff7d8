/- Charts: New, Get; a number in a list. -/
import Derived.Test.YtgggpaacagbmcaaGreatX16GroupTells
import Derived.Test.YtgggpaacagbmcaaGreatX11GroupTells
import Derived.Test.YtgggpaacagbmcaaGreatX12GroupTells
set_option linter.unusedVariables false
set_option linter.unusedSimpArgs false
namespace Go.Proofs.YtgggpaacagbmcaaGreat
open Go.RowKit Go.Maps Go.Deep

theorem index_any (l : List Int) (a : Option Addr) (cap : Nat) (v : Int) (w : World) {F : Nat → Prop} (hs : Sl tInt w F a l) (hl : l.length ≤ maxLen) :
    Calls Tryz.prog 165 #[.slice a l.length cap, .int .i64 v] w fun e w' => (∃ i : Int, e = .returned (.int .i64 i) ∧ decide (0 ≤ i) = l.contains v) ∧ w' = w := by
  have HS := Lib.hid hs
  have hl' : l.length ≤ 9223372036854775807 := by unfold maxLen at hl; omega
  clear hs hl
  go_enter Tryz.func165, Tryz.ntmps165
  go_wp2_with fail
  go_loopw [8] (fun vi wr => ∃ n : Nat, n ≤ l.length ∧ vi = .int .i64 n ∧ Hid (∀ i (hi : i < l.length), i < n → l[i] ≠ v) ∧ wr = w) (fun vi _ => l.length - (intOf vi).toNat)
  case atStart => exact ⟨0, Nat.zero_le _, rfl, Lib.hid (fun i _ h => by omega), rfl⟩
  case round =>
    obtain ⟨n, hn, rfl, hno, rfl⟩ := hrel
    by_cases hlt : n < l.length
    · obtain ⟨ad, rfl, hadl, hc0⟩ := int_at HS.out n hlt
      cases hv : (v == l[n])
      · have HN : Hid (∀ i (hi : i < l.length), i < n + 1 → l[i] ≠ v) := Lib.hid (fun i hi hin => by
          rcases Nat.lt_or_ge i n with h | h
          · exact hno.out i hi h
          · have : i = n := by omega
            subst this
            intro e
            rw [e] at hv
            simp at hv)
        go_wp2_with fail
        go_roundw
        case rel => exact ⟨n + 1, by omega, by go_num, HN, by first | rfl | trivial⟩
        case measure => simp [intOf]; omega
      · have HF : Hid (l.contains v = true) := Lib.hid (by
          have : v = l[n] := by simpa using hv
          rw [this]
          simp)
        go_wp2_with fail
        go_ret
        exact ⟨⟨n, rfl, by rw [HF.out]; simp⟩, rfl⟩
    · have HF : Hid (l.contains v = false) := Lib.hid (by
        rw [Bool.eq_false_iff]
        intro h
        rw [List.contains_iff_mem] at h
        obtain ⟨i, hi, he⟩ := List.mem_iff_getElem.1 h
        exact hno.out i hi (by omega) he)
      go_wp2_with fail
      go_ret
      exact ⟨⟨-1, rfl, by rw [HF.out]; rfl⟩, rfl⟩
theorem contains_any (l : List Int) (a : Option Addr) (cap : Nat) (v : Int) (w : World) {F : Nat → Prop} (hs : Sl tInt w F a l) (hl : l.length ≤ maxLen) {b : Bool} (hb : l.contains v = b) :
    Calls Tryz.prog 144 #[.slice a l.length cap, .int .i64 v] w fun e w' => e = .returned (.bool b) ∧ w' = w := by
  have HC := Lib.hid (index_any l a cap v w hs hl)
  have HB := Lib.hid hb
  clear hs hl hb
  go_enter Tryz.func144, Tryz.ntmps144
  go_wp2_with fail
  refine HC.out.mono ?_
  rintro e w1 ⟨⟨i, rfl, hi⟩, rfl⟩
  rw [HB.out] at hi
  have HI := Lib.hid hi
  clear hi
  go_wp2_with fail
  go_ret
  rw [← HI.out]
  exact ⟨rfl, rfl⟩

/-- block g is a chart of accounts -/
structure ChartAt (w : World) (g : Nat) (mb : Option Nat) (l : List Ac) : Prop where
  cell : w.heap[g]? = some (.cells #[.map mb] 201 (0, 0))
  none : mb = none → l = []
  some : ∀ b, mb = some b → MapIs mInt acv w b (codesOf l) ∧ b ≠ g
theorem ChartAt.below {w w' : World} {g : Nat} {mb : Option Nat} {l : List Ac} (h : ChartAt w g mb l) (hb : Below w.heap.size w w') : ChartAt w' g mb l :=
  ⟨blk_below h.cell hb, h.none, fun b e => ⟨(h.some b e).1.keep (hb.block b (h.some b e).1.lt), (h.some b e).2⟩⟩
theorem zeroA (w : World) : (zeroValue 79).run Tryz.prog w = .ok (acv ac0) w := by kernel_rfl
theorem lookA {w : World} {g : Nat} {mb : Option Nat} {l : List Ac} (h : ChartAt w g mb l) {k : Int} (hk : I64 k) (W : World) (hW : ∀ b, b < w.heap.size → W.heap[b]? = w.heap[b]?) :
    (Instr.lookup 199 (.map mb) (.int .i64 k) true).run Tryz.prog W = .ok (.tuple #[acv (acD l k), .bool (findA l k).isSome]) W := by
  cases mb with
  | none =>
    obtain rfl := h.none rfl
    have := lookup_nil mInt (w := W) Tryz.underlying199 (k := k) hk (zeroA W) true
    exact this
  | some b =>
    have h1 := (h.some b rfl).1
    have := (h1.keep (w' := W) (hW b h1.lt)).lookup_ok Tryz.underlying199 (k := k) hk (zeroA W)
    rw [look_codes] at this
    rw [show mInt.ek k = .int .i64 k from rfl] at this
    rw [this]
    unfold acD
    cases findA l k <;> rfl

set_option maxHeartbeats 2000000 in
set_option maxRecDepth 100000 in
theorem chget_any {w : World} {g : Nat} {mb : Option Nat} {l : List Ac} (h : ChartAt w g mb l) (k : Int) (hk : I64 k) :
    Calls Tryz.prog 135 #[.pointer (some ⟨g, 0, none⟩), .int .i64 k] w fun e w' => e = .returned (.tuple #[acv (acD l k), .bool (findA l k).isSome]) ∧ Below w.heap.size w w' := by
  have hz := blk_cells h.cell
  have hzl := blk_lt h.cell
  have hlk := lookA h hk (w.alloc (.cells #[.int .i64 0, .int .i64 0, .bool false] 79)) (fun b hb => Below.heap_alloc w _ b hb)
  have HB := Lib.hid (((Below.refl w.heap.size w).alloc (Nat.le_refl _) (.cells #[.int .i64 (acD l k).code, .int .i64 (acD l k).kind, .bool (acD l k).ret] 79)).alloc (by simp) (.cells #[.int .i64 (acD l k).code, .int .i64 (acD l k).kind, .bool (acD l k).ret] 79))
  clear h hk
  generalize acD l k = x at *
  generalize (findA l k).isSome = is at *
  obtain ⟨xc, xk, xr⟩ := x
  simp only at hlk HB
  go_enter Tryz.func135, Tryz.ntmps135
  go_wp2_with fail
  refine bodyPost_ret (v := .tuple #[acv ⟨xc, xk, xr⟩, .bool is]) (results_row_tmp (fn := Tryz.f135) (p := 4) (ty := 79) rfl _ _ w.heap.size 79 _ (0, 0) _ rfl (blk_alloc (blk_new w _) _) Tryz.underlying79 rfl (by kernel_rfl)) rfl ?_
  exact ⟨rfl, HB.out⟩
set_option maxHeartbeats 2000000 in
set_option maxRecDepth 100000 in
theorem chget_nil (w : World) (k : Int) :
    Calls Tryz.prog 135 #[.pointer none, .int .i64 k] w fun e w' => e = .returned (.tuple #[acv ac0, .bool false]) ∧ Below w.heap.size w w' := by
  have HB := Lib.hid ((Below.refl w.heap.size w).alloc (Nat.le_refl _) (.cells #[.int .i64 0, .int .i64 0, .bool false] 79))
  have HZ := Lib.hid (blk_new w (.cells #[.int .i64 0, .int .i64 0, .bool false] 79))
  go_enter Tryz.func135, Tryz.ntmps135
  go_wp2_with fail
  refine bodyPost_ret (v := .tuple #[acv ac0, .bool false]) (results_row_tmp (fn := Tryz.f135) (p := 4) (ty := 79) rfl _ _ w.heap.size 79 _ (0, 0) _ rfl (blk_new w _) Tryz.underlying79 rfl (by kernel_rfl)) rfl ?_
  exact ⟨rfl, HB.out⟩
end Go.Proofs.YtgggpaacagbmcaaGreat


/- variorumbook: SameBalances, SamePairs. -/
set_option linter.unusedVariables false
set_option linter.unusedSimpArgs false
namespace Go.Proofs.YtgggpaacagbmcaaGreat
open Go.RowKit Go.Maps

theorem take_eq_succ {α : Type} {a b : List α} {n : Nat} (h : a.take n = b.take n) (h1 : n < a.length) (h2 : n < b.length) (he : a[n] = b[n]) : a.take (n + 1) = b.take (n + 1) := by
  rw [List.take_succ_eq_append_getElem h1, List.take_succ_eq_append_getElem h2, h, he]
theorem ne_at {α : Type} {a b : List α} {n : Nat} (h1 : n < a.length) (h2 : n < b.length) (he : a[n] ≠ b[n]) : a ≠ b := by
  rintro rfl
  exact he rfl

set_option maxHeartbeats 4000000 in
set_option maxRecDepth 100000 in
theorem sameBal_any (l m : List (Int × Int)) (a b : Option Addr) (ca cb : Nat) (w : World) {F G : Nat → Prop} (hs : Sl tBal w F a l) (ht : Sl tBal w G b m) (hl : l.length ≤ maxLen) (hm : m.length ≤ maxLen) {r : Bool} (hr : decide (l = m) = r) :
    Calls Tryz.prog 16 #[.slice a l.length ca, .slice b m.length cb] w fun e w' => e = .returned (.bool r) ∧ Below w.heap.size w w' := by
  have HS := Lib.hid hs
  have HT := Lib.hid ht
  have HR := Lib.hid hr
  have hl' : l.length ≤ 9223372036854775807 := by unfold maxLen at hl; omega
  have hm' : m.length ≤ 9223372036854775807 := by unfold maxLen at hm; omega
  clear hs ht hl hm hr
  by_cases hlen : l.length = m.length
  · have hle : l.length ≤ m.length := by omega
    have hge : m.length ≤ l.length := by omega
    have hq : ((l.length : Int) != (m.length : Int)) = false := by simp [hlen]
    have HLEN := Lib.hid hlen
    clear hlen
    go_enter Tryz.func16, Tryz.ntmps16
    go_wp2_with fail
    go_loopw [5] (fun vi wr => ∃ n : Nat, n ≤ l.length ∧ vi = .int .i64 n ∧ Hid (l.take n = m.take n) ∧ Below w.heap.size w wr) (fun vi _ => l.length - (intOf vi).toNat)
    case atStart => exact ⟨0, Nat.zero_le _, rfl, Lib.hid rfl, Below.refl _ _⟩
    case round =>
      obtain ⟨n, hn, rfl, htk, hb⟩ := hrel
      have HB := Lib.hid hb
      clear hb
      by_cases hlt : n < l.length
      · have hlt2 : n < m.length := by omega
        obtain ⟨ad, rfl, _, hadl, hc0, hc1, _, _⟩ := bal_at (Sl.keep (fun k hk _ => HB.out.block k hk) HS.out) n hlt
        obtain ⟨bd, rfl, _, hbdl, hd0, hd1, _, _⟩ := bal_at (Sl.keep (fun k hk _ => HB.out.block k hk) HT.out) n hlt2
        have HEQ : Hid (l[n] = m[n] → l.take (n + 1) = m.take (n + 1)) := Lib.hid (fun h => take_eq_succ htk.out hlt hlt2 h)
        have HNE : Hid (l[n] ≠ m[n] → r = false) := Lib.hid (fun h => by rw [← HR.out]; simpa using ne_at hlt hlt2 h)
        generalize l[n] = x at *
        generalize m[n] = y at *
        obtain ⟨x1, x2⟩ := x
        obtain ⟨y1, y2⟩ := y
        simp only at hc0 hc1 hd0 hd1
        skip
        by_cases he1 : x1 = y1
        · by_cases he2 : x2 = y2
          · subst he1
            subst he2
            have HN := Lib.hid (HEQ.out rfl)
            have h1 : (x1 == x1) = true := by simp
            have h2 : (x2 == x2) = true := by simp
            go_wp2_with fail
            go_quiet (fail)
            go_wp2_with fail
            go_roundw
            case rel => exact ⟨n + 1, by omega, by go_num, HN, below_drewN HB.out _⟩
            case measure => simp [intOf]; omega
          · have HF := Lib.hid (HNE.out (by simp [he2]))
            have h1 : (x1 == y1) = true := by simpa using he1
            have h2 : (x2 == y2) = false := by simpa using he2
            clear he1 he2
            go_wp2_with fail
            go_quiet (fail)
            go_wp2_with fail
            go_ret
            rw [HF.out]
            exact ⟨rfl, below_drewN HB.out _⟩
        · have HF := Lib.hid (HNE.out (by simp [he1]))
          have h1 : (x1 == y1) = false := by simpa using he1
          clear he1
          go_wp2_with fail
          go_quiet (fail)
          go_wp2_with fail
          go_ret
          rw [HF.out]
          exact ⟨rfl, below_drewN HB.out _⟩
      · have hnn : n = l.length := by omega
        have HF : Hid (r = true) := Lib.hid (by
          rw [← HR.out]
          have := htk.out
          rw [hnn, List.take_length, HLEN.out, List.take_length] at this
          simpa using this)
        clear hnn
        go_wp2_with fail
        go_ret
        rw [HF.out]
        exact ⟨rfl, HB.out⟩
  · have hq : ((l.length : Int) != (m.length : Int)) = true := by simp; omega
    have HF : Hid (r = false) := Lib.hid (by rw [← HR.out]; simp; intro h; exact hlen (by rw [h]))
    clear hlen
    go_enter Tryz.func16, Tryz.ntmps16
    go_wp2_with fail
    go_ret
    rw [HF.out]
    exact ⟨rfl, Below.refl _ _⟩
set_option maxHeartbeats 4000000 in
set_option maxRecDepth 100000 in
theorem samePair_any (l m : List (Int × Int)) (a b : Option Addr) (ca cb : Nat) (w : World) {F G : Nat → Prop} (hs : Sl tPair w F a l) (ht : Sl tPair w G b m) (hl : l.length ≤ maxLen) (hm : m.length ≤ maxLen) {r : Bool} (hr : decide (l = m) = r) :
    Calls Tryz.prog 110 #[.slice a l.length ca, .slice b m.length cb] w fun e w' => e = .returned (.bool r) ∧ Below w.heap.size w w' := by
  have HS := Lib.hid hs
  have HT := Lib.hid ht
  have HR := Lib.hid hr
  have hl' : l.length ≤ 9223372036854775807 := by unfold maxLen at hl; omega
  have hm' : m.length ≤ 9223372036854775807 := by unfold maxLen at hm; omega
  clear hs ht hl hm hr
  by_cases hlen : l.length = m.length
  · have hle : l.length ≤ m.length := by omega
    have hge : m.length ≤ l.length := by omega
    have hq : ((l.length : Int) != (m.length : Int)) = false := by simp [hlen]
    have HLEN := Lib.hid hlen
    clear hlen
    go_enter Tryz.func110, Tryz.ntmps110
    go_wp2_with fail
    go_loopw [5] (fun vi wr => ∃ n : Nat, n ≤ l.length ∧ vi = .int .i64 n ∧ Hid (l.take n = m.take n) ∧ Below w.heap.size w wr) (fun vi _ => l.length - (intOf vi).toNat)
    case atStart => exact ⟨0, Nat.zero_le _, rfl, Lib.hid rfl, Below.refl _ _⟩
    case round =>
      obtain ⟨n, hn, rfl, htk, hb⟩ := hrel
      have HB := Lib.hid hb
      clear hb
      by_cases hlt : n < l.length
      · have hlt2 : n < m.length := by omega
        obtain ⟨ad, rfl, _, hadl, hc0, hc1, _, _⟩ := pair_at (Sl.keep (fun k hk _ => HB.out.block k hk) HS.out) n hlt
        obtain ⟨bd, rfl, _, hbdl, hd0, hd1, _, _⟩ := pair_at (Sl.keep (fun k hk _ => HB.out.block k hk) HT.out) n hlt2
        have HEQ : Hid (l[n] = m[n] → l.take (n + 1) = m.take (n + 1)) := Lib.hid (fun h => take_eq_succ htk.out hlt hlt2 h)
        have HNE : Hid (l[n] ≠ m[n] → r = false) := Lib.hid (fun h => by rw [← HR.out]; simpa using ne_at hlt hlt2 h)
        generalize l[n] = x at *
        generalize m[n] = y at *
        obtain ⟨x1, x2⟩ := x
        obtain ⟨y1, y2⟩ := y
        simp only at hc0 hc1 hd0 hd1
        have heq := fun W => eq_pair x1 x2 y1 y2 W
        by_cases he1 : x1 = y1
        · by_cases he2 : x2 = y2
          · subst he1
            subst he2
            have HN := Lib.hid (HEQ.out rfl)
            have h1 : (x1 == x1) = true := by simp
            have h2 : (x2 == x2) = true := by simp
            go_wp2_with fail
            go_quiet (fail)
            go_wp2_with fail
            go_roundw
            case rel => exact ⟨n + 1, by omega, by go_num, HN, below_drewN HB.out _⟩
            case measure => simp [intOf]; omega
          · have HF := Lib.hid (HNE.out (by simp [he2]))
            have h1 : (x1 == y1) = true := by simpa using he1
            have h2 : (x2 == y2) = false := by simpa using he2
            clear he1 he2
            go_wp2_with fail
            go_quiet (fail)
            go_wp2_with fail
            go_ret
            rw [HF.out]
            exact ⟨rfl, below_drewN HB.out _⟩
        · have HF := Lib.hid (HNE.out (by simp [he1]))
          have h1 : (x1 == y1) = false := by simpa using he1
          clear he1
          go_wp2_with fail
          go_quiet (fail)
          go_wp2_with fail
          go_ret
          rw [HF.out]
          exact ⟨rfl, below_drewN HB.out _⟩
      · have hnn : n = l.length := by omega
        have HF : Hid (r = true) := Lib.hid (by
          rw [← HR.out]
          have := htk.out
          rw [hnn, List.take_length, HLEN.out, List.take_length] at this
          simpa using this)
        clear hnn
        go_wp2_with fail
        go_ret
        rw [HF.out]
        exact ⟨rfl, HB.out⟩
  · have hq : ((l.length : Int) != (m.length : Int)) = true := by simp; omega
    have HF : Hid (r = false) := Lib.hid (by rw [← HR.out]; simp; intro h; exact hlen (by rw [h]))
    clear hlen
    go_enter Tryz.func110, Tryz.ntmps110
    go_wp2_with fail
    go_ret
    rw [HF.out]
    exact ⟨rfl, Below.refl _ _⟩
end Go.Proofs.YtgggpaacagbmcaaGreat
