/- variorumbook.Room, Few. -/
import Derived.Test.YtfbbjlhhkfdncaaPc
import Derived.Deep.RegionWith
set_option linter.unusedVariables false
set_option linter.unusedSimpArgs false
namespace Go.Proofs.Ytfbbjlhhkfdncaa
open Go.RowKit Go.Maps

def RoomPost (w : World) (e : Ending) (w' : World) : Prop := (∃ k : Int, e = .returned (.int .i64 k) ∧ -1 ≤ k ∧ k ≤ 2000) ∧ w' = w
set_option maxHeartbeats 2000000 in
theorem room_any (left : Int) (a : Option Addr) (cap : Nat) (l : List Int) (w : World) {F : Nat → Prop} (h1 : -1 ≤ left) (h2 : left ≤ 2000) (hl : l.length ≤ 140737488351232) (hn : ∀ x ∈ l, 0 ≤ x) (hs : Sl tInt w F a l) :
    Calls Try.prog 57 #[.int .i64 left, .slice a l.length cap] w (RoomPost w) := by
  have HS := Lib.hid hs
  have HN := Lib.hid hn
  clear hs hn
  go_enter Try.func57, Try.ntmps57
  go_wp2_with fail
  go_loopw [0, 5] (fun vk vi wr => ∃ (n : Nat) (k : Int), n ≤ l.length ∧ vi = .int .i64 n ∧ vk = .int .i64 k ∧ -1 ≤ k ∧ k ≤ 2000 ∧ wr = w) (fun _ vi _ => l.length - (intOf vi).toNat)
  case atStart => exact ⟨0, left, Nat.zero_le _, rfl, rfl, h1, h2, rfl⟩
  case round =>
    obtain ⟨n, k, hn, rfl, rfl, hk1, hk2, rfl⟩ := hrel
    by_cases hlt : n < l.length
    · obtain ⟨ad, rfl, hadl, hc0⟩ := int_at HS.out n hlt
      have hx0 := HN.out l[n] (List.getElem_mem hlt)
      have hc : k < 0 ∨ 0 ≤ k ∧ (k < l[n] ∨ l[n] ≤ k) := by omega
      rcases hc with h | ⟨h, h3 | h3⟩
      · go_wp2_with fail
        go_ret
        exact ⟨⟨-1, rfl, by omega, by omega⟩, rfl⟩
      · go_wp2_with fail
        go_ret
        exact ⟨⟨-1, rfl, by omega, by omega⟩, rfl⟩
      · go_wp2_with fail
        go_roundw
        case rel => exact ⟨n + 1, k - l[n], by omega, by go_num, by go_num, by omega, by omega, by first | rfl | trivial⟩
        case measure => simp [intOf]; omega
    · go_wp2_with fail
      go_ret
      exact ⟨⟨k, rfl, hk1, hk2⟩, rfl⟩

theorem room2 (left x y : Int) (b : Nat) (W : World) (hb : W.heap[b]? = some (.cells #[.int .i64 x, .int .i64 y] 3 (0, 0))) (h1 : -1 ≤ left) (h2 : left ≤ 2000) (hx : 0 ≤ x) (hy : 0 ≤ y) (wx : I64 x) (wy : I64 y) :
    Calls Try.prog 57 #[.int .i64 left, .slice (some ⟨b, 0, none⟩) 2 2] W (RoomPost W) := by
  refine room_any left (some ⟨b, 0, none⟩) 2 [x, y] W h1 h2 (by simp only [List.length_cons, List.length_nil]; omega) (by simp [hx, hy]) (F := fun _ => True) ?_
  intro i u hi
  have hlt : b < W.heap.size := (Array.getElem?_eq_some_iff.1 hb).1
  have hcell := fun o => cell_of_row W b o #[.int .i64 x, .int .i64 y] 3 (0, 0) hb
  match i, hi with
  | 0, hi =>
    simp at hi; subst hi
    refine ⟨_, [.int .i64 x], rfl, trivial, hlt, fun j v hv => ?_, rfl, wx⟩
    cases j with
    | zero => simp at hv; subst hv; exact hcell 0
    | succ j => simp at hv
  | 1, hi =>
    simp at hi; subst hi
    refine ⟨_, [.int .i64 y], rfl, trivial, hlt, fun j v hv => ?_, rfl, wy⟩
    cases j with
    | zero => simp at hv; subst hv; exact hcell 1
    | succ j => simp at hv

set_option maxHeartbeats 4000000 in
set_option maxRecDepth 100000 in
theorem few_any (l : List Jn) (a : Option Addr) (cap : Nat) (m : Nat) (w : World) {F : Nat → Prop} (hs : Sl tJn w F a l) (hl : l.length ≤ maxLen) (hm : m ≤ 10000) :
    Calls Try.prog 28 #[.int .i64 m, .slice a l.length cap] w fun e w' => ∃ b : Bool, e = .returned (.bool b) ∧ (b = true → l.length ≤ m) ∧ Below w.heap.size w w' := by
  have HS := Lib.hid hs
  have hl' : l.length ≤ 9223372036854775807 := by unfold maxLen at hl; omega
  clear hs hl
  go_enter Try.func28, Try.ntmps28
  go_wp2_with fail
  go_loopw [5, 6] (fun vk vi wr => ∃ (n : Nat) (k : Int), n ≤ l.length ∧ n ≤ m + 1 ∧ vi = .int .i64 n ∧ vk = .int .i64 k ∧ -1 ≤ k ∧ k ≤ 2000 ∧ Below w.heap.size w wr) (fun _ vi _ => l.length - (intOf vi).toNat)
  case atStart => exact ⟨0, 2000, Nat.zero_le _, by omega, rfl, rfl, by omega, by omega, Below.refl _ _⟩
  case round =>
    obtain ⟨n, k, hn, hnm, rfl, rfl, hk1, hk2, hb⟩ := hrel
    have HB1 := Lib.hid hb
    clear hb
    have hend : (n < l.length ∧ n ≤ m ∧ 0 ≤ k) ∨ (¬ n < l.length ∨ n < l.length ∧ (m < n ∨ n ≤ m ∧ k < 0)) := by omega
    rcases hend with ⟨hlt, hle, hk0⟩ | h
    · obtain ⟨ad, la, lc, rfl, _, hadl, hc0, hc1, hc2, hc3, hc4, hc5, hr⟩ := jn_at (Sl.keep (fun k hk _ => HB1.out.block k hk) HS.out) n hlt
      obtain ⟨_, _, _, hrs, _, hll, hcm, _⟩ := jcs_inv hr
      have hrs' : (l[n].ref.size : Int) ≤ 140737488351232 := by omega
      have hll' : (l[n].lines.length : Int) ≤ (maxLen : Int) := by omega
      have hml : (maxLen : Int) ≤ 9223372036854775807 := by decide
      have hI1 : I64 (l[n].ref.size : Int) := by unfold I64 Lit.wf; simp [IntKind.min, IntKind.max, IntKind.bits, IntKind.signed]; omega
      have hI2 : I64 (l[n].lines.length : Int) := by unfold I64 Lit.wf; simp [IntKind.min, IntKind.max, IntKind.bits, IntKind.signed]; omega
      have H1 := Lib.hid hI1
      have H2 := Lib.hid hI2
      clear hr hrs hll hcm hI1 hI2 hml hrs' hll'
      go_wp2_with fail
      go_region_with (go_at_call 57; refine (room2 k l[n].ref.size l[n].lines.length _ _ (blk_new wr.drew (.cells #[.int .i64 l[n].ref.size, .int .i64 l[n].lines.length] 3)) hk1 hk2 (by omega) (by omega) H1.out H2.out).mono ?_; rintro e w' ⟨⟨k2, rfl, hk3, hk4⟩, rfl⟩)
      all_goals
        have HB2 := Lib.hid (Below.alloc (Below.drew HB1.out) HB1.out.size (.cells #[.int .i64 l[n].ref.size, .int .i64 l[n].lines.length] 3))
        clear hc0 hc1 hc2 hc3 hc4 hc5 hadl
        go_wp2_with fail
        go_roundw
        case rel => exact ⟨n + 1, k2, by omega, by omega, by go_num, rfl, hk3, hk4, HB2.out⟩
        case measure => simp [intOf]; omega
    · have hq : (¬ n < l.length ∧ ((l.length : Int) ≤ m ∧ (0 ≤ k ∨ k < 0) ∨ (m : Int) < (l.length : Int))) ∨ (n < l.length ∧ m < n ∧ (m : Int) < (l.length : Int)) ∨ (n < l.length ∧ n ≤ m ∧ k < 0 ∧ ((l.length : Int) ≤ m ∨ (m : Int) < (l.length : Int))) := by omega
      rcases hq with ⟨q1, ⟨q2, q3 | q3⟩ | q2⟩ | ⟨q1, q2, q3⟩ | ⟨q1, q2, q3, q4 | q4⟩
      all_goals
        clear h
        go_wp2_with fail
        go_ret
        refine ⟨_, rfl, fun hbt => ?_, HB1.out⟩
        first
        | omega
        | (simp at hbt; done)
        | (simp at hbt; omega)
        | cases hbt
end Go.Proofs.Ytfbbjlhhkfdncaa
