
/- Charts: New, Get; a number in a list. -/
import Derived.Test.YtfbbjlhhkfdncaaAd
import Derived.Test.YtfbbjlhhkfdncaaIk
import Derived.Test.YtfbbjlhhkfdncaaRa
set_option linter.unusedVariables false
set_option linter.unusedSimpArgs false
namespace Go.Proofs.Ytfbbjlhhkfdncaa
open Go.RowKit Go.Maps Go.Deep

theorem index_any (l : List Int) (a : Option Addr) (cap : Nat) (v : Int) (w : World) {F : Nat → Prop} (hs : Sl tInt w F a l) (hl : l.length ≤ maxLen) :
    Calls Try.prog 90 #[.slice a l.length cap, .int .i64 v] w fun e w' => (∃ i : Int, e = .returned (.int .i64 i) ∧ decide (0 ≤ i) = l.contains v) ∧ w' = w := by
  have HS := Lib.hid hs
  have hl' : l.length ≤ 9223372036854775807 := by unfold maxLen at hl; omega
  clear hs hl
  go_enter Try.func90, Try.ntmps90
  go_wp2_with fail
  go_loopw [8] (fun vi wr => ∃ n : Nat, n ≤ l.length ∧ vi = .int .i64 n ∧ Hid (∀ i (hi : i < l.length), i < n → l[i] ≠ v) ∧ wr = w) (fun vi _ => l.length - (intOf vi).toNat)
  case atStart => exact ⟨0, Nat.zero_le _, rfl, Lib.hid (fun i _ h => by omega), rfl⟩
  case round =>
    obtain ⟨n, hn, rfl, hno, rfl⟩ := hrel
    by_cases hlt : n < l.length
    · obtain ⟨ad, rfl, hadl, hc0⟩ := int_at HS.out n hlt
      cases hv : (v == l[n])
      · have HN : Hid (∀ i (hi : i < l.length), i < n + 1 → l[i] ≠ v) := Lib.hid (fun i hi hin => by
          rcases Nat.lt_or_ge i n with h | h
          · exact hno.out i hi h
          · have : i = n := by omega
            subst this
            intro e
            rw [e] at hv
            simp at hv)
        go_wp2_with fail
        go_roundw
        case rel => exact ⟨n + 1, by omega, by go_num, HN, by first | rfl | trivial⟩
        case measure => simp [intOf]; omega
      · have HF : Hid (l.contains v = true) := Lib.hid (by
          have : v = l[n] := by simpa using hv
          rw [this]
          simp)
        go_wp2_with fail
        go_ret
        exact ⟨⟨n, rfl, by rw [HF.out]; simp⟩, rfl⟩
    · have HF : Hid (l.contains v = false) := Lib.hid (by
        rw [Bool.eq_false_iff]
        intro h
        rw [List.contains_iff_mem] at h
        obtain ⟨i, hi, he⟩ := List.mem_iff_getElem.1 h
        exact hno.out i hi (by omega) he)
      go_wp2_with fail
      go_ret
      exact ⟨⟨-1, rfl, by rw [HF.out]; rfl⟩, rfl⟩
theorem contains_any (l : List Int) (a : Option Addr) (cap : Nat) (v : Int) (w : World) {F : Nat → Prop} (hs : Sl tInt w F a l) (hl : l.length ≤ maxLen) {b : Bool} (hb : l.contains v = b) :
    Calls Try.prog 56 #[.slice a l.length cap, .int .i64 v] w fun e w' => e = .returned (.bool b) ∧ w' = w := by
  have HC := Lib.hid (index_any l a cap v w hs hl)
  have HB := Lib.hid hb
  clear hs hl hb
  go_enter Try.func56, Try.ntmps56
  go_wp2_with fail
  refine HC.out.mono ?_
  rintro e w1 ⟨⟨i, rfl, hi⟩, rfl⟩
  rw [HB.out] at hi
  have HI := Lib.hid hi
  clear hi
  go_wp2_with fail
  go_ret
  rw [← HI.out]
  exact ⟨rfl, rfl⟩

/-- block g is a chart of accounts -/
structure ChartAt (w : World) (g : Nat) (mb : Option Nat) (l : List Ac) : Prop where
  cell : w.heap[g]? = some (.cells #[.map mb] 154 (0, 0))
  none : mb = none → l = []
  some : ∀ b, mb = some b → MapIs mInt acv w b (codesOf l) ∧ b ≠ g
theorem ChartAt.below {w w' : World} {g : Nat} {mb : Option Nat} {l : List Ac} (h : ChartAt w g mb l) (hb : Below w.heap.size w w') : ChartAt w' g mb l :=
  ⟨blk_below h.cell hb, h.none, fun b e => ⟨(h.some b e).1.keep (hb.block b (h.some b e).1.lt), (h.some b e).2⟩⟩
theorem zeroA (w : World) : (zeroValue 111).run Try.prog w = .ok (acv ac0) w := by kernel_rfl
theorem lookA {w : World} {g : Nat} {mb : Option Nat} {l : List Ac} (h : ChartAt w g mb l) {k : Int} (hk : I64 k) (W : World) (hW : ∀ b, b < w.heap.size → W.heap[b]? = w.heap[b]?) :
    (Instr.lookup 152 (.map mb) (.int .i64 k) true).run Try.prog W = .ok (.tuple #[acv (acD l k), .bool (findA l k).isSome]) W := by
  cases mb with
  | none =>
    obtain rfl := h.none rfl
    have := lookup_nil mInt (w := W) Try.underlying152 (k := k) hk (zeroA W) true
    exact this
  | some b =>
    have h1 := (h.some b rfl).1
    have := (h1.keep (w' := W) (hW b h1.lt)).lookup_ok Try.underlying152 (k := k) hk (zeroA W)
    rw [look_codes] at this
    rw [show mInt.ek k = .int .i64 k from rfl] at this
    rw [this]
    unfold acD
    cases findA l k <;> rfl

set_option maxHeartbeats 2000000 in
set_option maxRecDepth 100000 in
theorem chget_any {w : World} {g : Nat} {mb : Option Nat} {l : List Ac} (h : ChartAt w g mb l) (k : Int) (hk : I64 k) :
    Calls Try.prog 55 #[.pointer (some ⟨g, 0, none⟩), .int .i64 k] w fun e w' => e = .returned (.tuple #[acv (acD l k), .bool (findA l k).isSome]) ∧ Below w.heap.size w w' := by
  have hz := blk_cells h.cell
  have hzl := blk_lt h.cell
  have hlk := lookA h hk (w.alloc (.cells #[.int .i64 0, .int .i64 0, .bool false] 111)) (fun b hb => Below.heap_alloc w _ b hb)
  have HB := Lib.hid (((Below.refl w.heap.size w).alloc (Nat.le_refl _) (.cells #[.int .i64 (acD l k).code, .int .i64 (acD l k).kind, .bool (acD l k).ret] 111)).alloc (by simp) (.cells #[.int .i64 (acD l k).code, .int .i64 (acD l k).kind, .bool (acD l k).ret] 111))
  clear h hk
  generalize acD l k = x at *
  generalize (findA l k).isSome = is at *
  obtain ⟨xc, xk, xr⟩ := x
  simp only at hlk HB
  go_enter Try.func55, Try.ntmps55
  go_wp2_with fail
  refine bodyPost_ret (v := .tuple #[acv ⟨xc, xk, xr⟩, .bool is]) (results_row_tmp (fn := Try.f55) (p := 4) (ty := 111) rfl _ _ w.heap.size 111 _ (0, 0) _ rfl (blk_alloc (blk_new w _) _) Try.underlying111 rfl (by kernel_rfl)) rfl ?_
  exact ⟨rfl, HB.out⟩
set_option maxHeartbeats 2000000 in
set_option maxRecDepth 100000 in
theorem chget_nil (w : World) (k : Int) :
    Calls Try.prog 55 #[.pointer none, .int .i64 k] w fun e w' => e = .returned (.tuple #[acv ac0, .bool false]) ∧ Below w.heap.size w w' := by
  have HB := Lib.hid ((Below.refl w.heap.size w).alloc (Nat.le_refl _) (.cells #[.int .i64 0, .int .i64 0, .bool false] 111))
  have HZ := Lib.hid (blk_new w (.cells #[.int .i64 0, .int .i64 0, .bool false] 111))
  go_enter Try.func55, Try.ntmps55
  go_wp2_with fail
  refine bodyPost_ret (v := .tuple #[acv ac0, .bool false]) (results_row_tmp (fn := Try.f55) (p := 4) (ty := 111) rfl _ _ w.heap.size 111 _ (0, 0) _ rfl (blk_new w _) Try.underlying111 rfl (by kernel_rfl)) rfl ?_
  exact ⟨rfl, HB.out⟩
end Go.Proofs.Ytfbbjlhhkfdncaa
