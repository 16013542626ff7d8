
/- Charts of the document: a row, an account, a kind, one more account. -/
import Derived.Test.YtfbbjlhhkfdncaaAc
import Derived.Test.YtfbbjlhhkfdncaaRa
set_option linter.unusedVariables false
set_option linter.unusedSimpArgs false
namespace Go.Proofs.Ytfbbjlhhkfdncaa
open Go.RowKit Go.Maps Go.Deep

theorem three (w : World) (b : Nat) {t : TypeId} {x0 x1 x2 : Value} (h : w.heap[b]? = some (.cells #[x0, x1, x2] t (0, 0))) (v0 v1 v2 : Value) :
    ∃ w4, (((w.setCell ⟨b, 0, none⟩ v0).setCell ⟨b, 1, none⟩ v1).setCell ⟨b, 2, none⟩ v2) = w4 ∧ w4.heap[b]? = some (.cells #[v0, v1, v2] t (0, 0)) ∧ w4.heap.size = w.heap.size ∧
      (∀ k, k ≠ b → w4.heap[k]? = w.heap[k]?) ∧ (∀ B w0, Below B w0 w → B ≤ b → Below B w0 w4) := by
  refine ⟨_, rfl, ?_, by simp, fun k hk => ?_, fun B w0 hb hB => ?_⟩
  · have := blk_set (blk_set (blk_set h 0 v0) 1 v1) 2 v2
    simpa using this
  · iterate 3 (rw [Below.heap_setCell _ _ _ k hk])
  · iterate 3 (refine Below.setCell ?_ hB _)
    exact hb

theorem row_any (c k : Int) (w : World) {b : Bool} (h : rowB ⟨c, k, false⟩ = b) : Calls Try.prog 88 #[.int .i64 c, .int .i64 k] w fun e w' => e = .returned (.bool b) ∧ w' = w := by
  rcases rowB_cases h with ⟨rfl, h1, h2, h3, h4⟩ | ⟨rfl, h1 | ⟨h1, h2 | ⟨h2, h3 | ⟨h3, h4⟩⟩⟩⟩
  all_goals
    clear h
    go_enter Try.func88, Try.ntmps88
    go_wp2
    go_ret
    refine ⟨?_, rfl⟩
    first | rfl | (simp; omega)

def ac0 : Ac := ⟨0, 0, false⟩
def acD (l : List Ac) (c : Int) : Ac := (findA l c).getD ac0
theorem kindA_D (l : List Ac) (c : Int) : kindA l c = (acD l c).kind := by
  unfold kindA acD
  cases findA l c <;> rfl

set_option maxHeartbeats 2000000 in
set_option maxRecDepth 100000 in
theorem raccount_any (l : List Ac) (a : Option Addr) (cap : Nat) (c : Int) (w : World) {F : Nat → Prop} (hs : Sl tAc w F a l) (hl : l.length ≤ maxLen) :
    Calls Try.prog 54 #[.slice a l.length cap, .int .i64 c] w fun e w' => e = .returned (.tuple #[acv (acD l c), .bool (findA l c).isSome]) ∧ Below w.heap.size w w' := by
  have HS := Lib.hid hs
  have hl' : l.length ≤ 9223372036854775807 := by unfold maxLen at hl; omega
  clear hs hl
  have HB := Lib.hid ((Below.refl w.heap.size w).alloc (Nat.le_refl _) (.cells #[.int .i64 0, .int .i64 0, .bool false] 111))
  have HZ := Lib.hid (blk_new w (.cells #[.int .i64 0, .int .i64 0, .bool false] 111))
  go_enter Try.func54, Try.ntmps54
  go_wp2_with fail
  go_loopw [6] (fun vi wr => ∃ n : Nat, n ≤ l.length ∧ vi = .int .i64 n ∧ Hid ((l.take n).any (fun x => x.code = c) = false) ∧ wr = w.alloc (.cells #[.int .i64 0, .int .i64 0, .bool false] 111)) (fun vi _ => l.length - (intOf vi).toNat)
  case atStart => exact ⟨0, Nat.zero_le _, rfl, rfl, rfl⟩
  case round =>
    obtain ⟨n, hn, rfl, hany, hwr⟩ := hrel
    have HB1 : Hid (Below w.heap.size w wr) := by rw [hwr]; exact HB
    have HZ1 : Hid (wr.heap[w.heap.size]? = some (.cells #[.int .i64 0, .int .i64 0, .bool false] 111 (0, 0))) := by rw [hwr]; exact HZ
    have HWR := Lib.hid hwr
    clear hwr
    have hz := blk_cells HZ1.out
    have hzf := blk_frz HZ1.out
    have hzl := blk_lt HZ1.out
    by_cases hlt : n < l.length
    · obtain ⟨ad, rfl, _, hadl, hc0, hc1, hc2, _, _⟩ := ac_at (HS.out.keep fun k hk _ => HB1.out.block k hk) n hlt
      cases hv : (l[n].code == c)
      · have hd0 : decide (l[n].code = c) = false := by simpa using hv
        have hnext : (l.take (n + 1)).any (fun x => decide (x.code = c)) = false := by
          rw [any_take_succ _ l n hlt, hany.out, hd0]
          rfl
        clear hd0
        have HN := Lib.hid hnext
        clear hnext
        go_wp2_with fail
        go_roundw
        case rel => exact ⟨n + 1, by omega, by go_num, HN.out, HWR.out⟩
        case measure => simp [intOf]; omega
      · have hf : findA l c = some l[n] := find_first (fun x : Ac => decide (x.code = c)) l n hlt hany.out (by simpa using hv)
        have hd : acD l c = l[n] := by unfold acD; rw [hf]; rfl
        have HF := Lib.hid (And.intro hf hd)
        clear hf hd
        go_wp2_with fail
        obtain ⟨w4, hw4, h4, hs4, hk4, hb4⟩ := three wr w.heap.size HZ1.out (.int .i64 l[n].code) (.int .i64 l[n].kind) (.bool l[n].ret)
        rw [hw4]
        clear hw4
        refine bodyPost_ret (v := .tuple #[acv l[n], .bool true]) (results_row_tmp (fn := Try.f54) (p := 4) (ty := 111) rfl _ _ w.heap.size 111 _ (0, 0) _ rfl h4 Try.underlying111 rfl (by kernel_rfl)) rfl ?_
        exact ⟨by rw [HF.out.1, HF.out.2]; rfl, hb4 _ _ HB1.out (Nat.le_refl _)⟩
    · have hno : findA l c = none := by
        have := hany.out
        rw [take_all hn hlt] at this
        unfold findA
        rw [List.find?_eq_none]
        intro x hx he
        rw [List.any_eq_false] at this
        exact this x hx he
      have HNO := Lib.hid hno
      clear hno hany
      go_wp2_with fail
      obtain ⟨w4, hw4, h4, hs4, hk4, hb4⟩ := three wr w.heap.size HZ1.out (.int .i64 0) (.int .i64 0) (.bool false)
      rw [hw4]
      clear hw4
      refine bodyPost_ret (v := .tuple #[acv ac0, .bool false]) (results_row_tmp (fn := Try.f54) (p := 4) (ty := 111) rfl _ _ w.heap.size 111 _ (0, 0) _ rfl h4 Try.underlying111 rfl (by kernel_rfl)) rfl ?_
      exact ⟨by unfold acD; rw [HNO.out]; rfl, hb4 _ _ HB1.out (Nat.le_refl _)⟩

set_option maxHeartbeats 2000000 in
theorem r10kind_any (l : List Ac) (a : Option Addr) (cap : Nat) (c : Int) (w : World) {F : Nat → Prop} (hs : Sl tAc w F a l) (hl : l.length ≤ maxLen) :
    Calls Try.prog 25 #[.slice a l.length cap, .int .i64 c] w fun e w' => e = .returned (.int .i64 (kindA l c)) ∧ Below w.heap.size w w' := by
  have HC := Lib.hid (raccount_any l a cap c w hs hl)
  clear hs hl
  rw [kindA_D]
  go_enter Try.func25, Try.ntmps25
  go_wp2_with fail
  refine HC.out.mono ?_
  rintro e w1 ⟨rfl, hb⟩
  have HB := Lib.hid (hb.alloc hb.size (.cells #[.int .i64 (acD l c).code, .int .i64 (acD l c).kind, .bool (acD l c).ret] 111))
  clear hb
  go_wp2_with fail
  go_ret
  exact ⟨rfl, HB.out⟩
end Go.Proofs.Ytfbbjlhhkfdncaa
