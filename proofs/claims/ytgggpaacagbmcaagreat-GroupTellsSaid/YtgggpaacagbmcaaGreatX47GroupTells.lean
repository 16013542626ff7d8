/- variorumbook: still, put, grow, marked of the kinds of which nothing is kept. Printed by mknil.py. -/
import Derived.Test.YtgggpaacagbmcaaGreatX26GroupTells
set_option linter.unusedVariables false
set_option linter.unusedSimpArgs false
namespace Go.Proofs.YtgggpaacagbmcaaGreat
open Go.RowKit Go.Maps

set_option maxHeartbeats 1000000 in
theorem stillTexts_nil (b : Nat) (cs : Array Value) (w : World) (hb : w.heap[b]? = some (.cells cs 48 (0, 0))) (hc : cs[0]? = some (.slice none 0 0)) :
    Calls Tryz.prog 38 #[.pointer (some ⟨b, 0, none⟩)] w fun e w' => e = .returned (.bool true) ∧ Below w.heap.size w w' := by
  have hbl := blk_lt hb
  have hcell : w.cell? ⟨b, 0, none⟩ = some (.slice none 0 0) := by rw [blk_cells hb]; exact hc
  clear hb hc
  go_enter Tryz.func38, Tryz.ntmps38
  go_wp2_with fail
  go_loopw [3] (fun vi wr => vi = .int .i64 0 ∧ wr = w) (fun vi _ => 0)
  case atStart => exact ⟨rfl, rfl⟩
  case round =>
    obtain ⟨rfl, rfl⟩ := hrel
    go_wp2_with fail
    go_ret
    exact ⟨rfl, Below.refl _ _⟩
set_option maxHeartbeats 1000000 in
theorem putTexts_nil (b : Nat) (cs : Array Value) (w : World) (hb : w.heap[b]? = some (.cells cs 48 (0, 0))) (hc : cs[0]? = some (.slice none 0 0)) :
    Calls Tryz.prog 50 #[.pointer (some ⟨b, 0, none⟩)] w fun e w' => e = .returned (.tuple #[]) ∧ Below w.heap.size w w' := by
  have hbl := blk_lt hb
  have hcell : w.cell? ⟨b, 0, none⟩ = some (.slice none 0 0) := by rw [blk_cells hb]; exact hc
  clear hb hc
  go_enter Tryz.func50, Tryz.ntmps50
  go_wp2_with fail
  go_loopw [2] (fun vi wr => vi = .int .i64 0 ∧ wr = w) (fun vi _ => 0)
  case atStart => exact ⟨rfl, rfl⟩
  case round =>
    obtain ⟨rfl, rfl⟩ := hrel
    go_wp2_with fail
    go_end0
    exact ⟨rfl, Below.refl _ _⟩
set_option maxHeartbeats 1000000 in
theorem growTexts_nil (b : Nat) (cs : Array Value) (w : World) (hb : w.heap[b]? = some (.cells cs 48 (0, 0))) (hc : cs[0]? = some (.slice none 0 0)) :
    Calls Tryz.prog 58 #[.pointer (some ⟨b, 0, none⟩)] w fun e w' => e = .returned (.slice none 0 0) ∧ Below w.heap.size w w' := by
  have hbl := blk_lt hb
  have hcell : w.cell? ⟨b, 0, none⟩ = some (.slice none 0 0) := by rw [blk_cells hb]; exact hc
  clear hb hc
  go_enter Tryz.func58, Tryz.ntmps58
  go_wp2_with fail
  go_loopw [3, 4] (fun vo vi wr => vo = .slice none 0 0 ∧ vi = .int .i64 0 ∧ wr = w) (fun _ vi _ => 0)
  case atStart => exact ⟨rfl, rfl, rfl⟩
  case round =>
    obtain ⟨rfl, rfl, rfl⟩ := hrel
    go_wp2_with fail
    go_ret
    exact ⟨rfl, Below.refl _ _⟩
set_option maxHeartbeats 1000000 in
theorem markedTexts_nil (w : World) :
    Calls Tryz.prog 68 #[.slice none 0 0] w fun e w' => e = .returned (.bool true) ∧ Below w.heap.size w w' := by
  go_enter Tryz.func68, Tryz.ntmps68
  go_wp2_with fail
  go_loopw [3] (fun vi wr => vi = .int .i64 0 ∧ wr = w) (fun vi _ => 0)
  case atStart => exact ⟨rfl, rfl⟩
  case round =>
    obtain ⟨rfl, rfl⟩ := hrel
    go_wp2_with fail
    go_ret
    exact ⟨rfl, Below.refl _ _⟩
set_option maxHeartbeats 1000000 in
theorem stillInts_nil (b : Nat) (cs : Array Value) (w : World) (hb : w.heap[b]? = some (.cells cs 48 (0, 0))) (hc : cs[2]? = some (.slice none 0 0)) :
    Calls Tryz.prog 39 #[.pointer (some ⟨b, 0, none⟩)] w fun e w' => e = .returned (.bool true) ∧ Below w.heap.size w w' := by
  have hbl := blk_lt hb
  have hcell : w.cell? ⟨b, 2, none⟩ = some (.slice none 0 0) := by rw [blk_cells hb]; exact hc
  clear hb hc
  go_enter Tryz.func39, Tryz.ntmps39
  go_wp2_with fail
  go_loopw [3] (fun vi wr => vi = .int .i64 0 ∧ wr = w) (fun vi _ => 0)
  case atStart => exact ⟨rfl, rfl⟩
  case round =>
    obtain ⟨rfl, rfl⟩ := hrel
    go_wp2_with fail
    go_ret
    exact ⟨rfl, Below.refl _ _⟩
set_option maxHeartbeats 1000000 in
theorem putInts_nil (b : Nat) (cs : Array Value) (w : World) (hb : w.heap[b]? = some (.cells cs 48 (0, 0))) (hc : cs[2]? = some (.slice none 0 0)) :
    Calls Tryz.prog 51 #[.pointer (some ⟨b, 0, none⟩)] w fun e w' => e = .returned (.tuple #[]) ∧ Below w.heap.size w w' := by
  have hbl := blk_lt hb
  have hcell : w.cell? ⟨b, 2, none⟩ = some (.slice none 0 0) := by rw [blk_cells hb]; exact hc
  clear hb hc
  go_enter Tryz.func51, Tryz.ntmps51
  go_wp2_with fail
  go_loopw [2] (fun vi wr => vi = .int .i64 0 ∧ wr = w) (fun vi _ => 0)
  case atStart => exact ⟨rfl, rfl⟩
  case round =>
    obtain ⟨rfl, rfl⟩ := hrel
    go_wp2_with fail
    go_end0
    exact ⟨rfl, Below.refl _ _⟩
set_option maxHeartbeats 1000000 in
theorem growInts_nil (b : Nat) (cs : Array Value) (w : World) (hb : w.heap[b]? = some (.cells cs 48 (0, 0))) (hc : cs[2]? = some (.slice none 0 0)) :
    Calls Tryz.prog 59 #[.pointer (some ⟨b, 0, none⟩)] w fun e w' => e = .returned (.slice none 0 0) ∧ Below w.heap.size w w' := by
  have hbl := blk_lt hb
  have hcell : w.cell? ⟨b, 2, none⟩ = some (.slice none 0 0) := by rw [blk_cells hb]; exact hc
  clear hb hc
  go_enter Tryz.func59, Tryz.ntmps59
  go_wp2_with fail
  go_loopw [3, 4] (fun vo vi wr => vo = .slice none 0 0 ∧ vi = .int .i64 0 ∧ wr = w) (fun _ vi _ => 0)
  case atStart => exact ⟨rfl, rfl, rfl⟩
  case round =>
    obtain ⟨rfl, rfl, rfl⟩ := hrel
    go_wp2_with fail
    go_ret
    exact ⟨rfl, Below.refl _ _⟩
set_option maxHeartbeats 1000000 in
theorem markedInts_nil (w : World) :
    Calls Tryz.prog 69 #[.slice none 0 0] w fun e w' => e = .returned (.bool true) ∧ Below w.heap.size w w' := by
  go_enter Tryz.func69, Tryz.ntmps69
  go_wp2_with fail
  go_loopw [3] (fun vi wr => vi = .int .i64 0 ∧ wr = w) (fun vi _ => 0)
  case atStart => exact ⟨rfl, rfl⟩
  case round =>
    obtain ⟨rfl, rfl⟩ := hrel
    go_wp2_with fail
    go_ret
    exact ⟨rfl, Below.refl _ _⟩
set_option maxHeartbeats 1000000 in
theorem stillAccounts_nil (b : Nat) (cs : Array Value) (w : World) (hb : w.heap[b]? = some (.cells cs 48 (0, 0))) (hc : cs[4]? = some (.slice none 0 0)) :
    Calls Tryz.prog 40 #[.pointer (some ⟨b, 0, none⟩)] w fun e w' => e = .returned (.bool true) ∧ Below w.heap.size w w' := by
  have hbl := blk_lt hb
  have hcell : w.cell? ⟨b, 4, none⟩ = some (.slice none 0 0) := by rw [blk_cells hb]; exact hc
  clear hb hc
  go_enter Tryz.func40, Tryz.ntmps40
  go_wp2_with fail
  go_loopw [3] (fun vi wr => vi = .int .i64 0 ∧ wr = w) (fun vi _ => 0)
  case atStart => exact ⟨rfl, rfl⟩
  case round =>
    obtain ⟨rfl, rfl⟩ := hrel
    go_wp2_with fail
    go_ret
    exact ⟨rfl, Below.refl _ _⟩
set_option maxHeartbeats 1000000 in
theorem putAccounts_nil (b : Nat) (cs : Array Value) (w : World) (hb : w.heap[b]? = some (.cells cs 48 (0, 0))) (hc : cs[4]? = some (.slice none 0 0)) :
    Calls Tryz.prog 52 #[.pointer (some ⟨b, 0, none⟩)] w fun e w' => e = .returned (.tuple #[]) ∧ Below w.heap.size w w' := by
  have hbl := blk_lt hb
  have hcell : w.cell? ⟨b, 4, none⟩ = some (.slice none 0 0) := by rw [blk_cells hb]; exact hc
  clear hb hc
  go_enter Tryz.func52, Tryz.ntmps52
  go_wp2_with fail
  go_loopw [2] (fun vi wr => vi = .int .i64 0 ∧ wr = w) (fun vi _ => 0)
  case atStart => exact ⟨rfl, rfl⟩
  case round =>
    obtain ⟨rfl, rfl⟩ := hrel
    go_wp2_with fail
    go_end0
    exact ⟨rfl, Below.refl _ _⟩
set_option maxHeartbeats 1000000 in
theorem growAccounts_nil (b : Nat) (cs : Array Value) (w : World) (hb : w.heap[b]? = some (.cells cs 48 (0, 0))) (hc : cs[4]? = some (.slice none 0 0)) :
    Calls Tryz.prog 60 #[.pointer (some ⟨b, 0, none⟩)] w fun e w' => e = .returned (.slice none 0 0) ∧ Below w.heap.size w w' := by
  have hbl := blk_lt hb
  have hcell : w.cell? ⟨b, 4, none⟩ = some (.slice none 0 0) := by rw [blk_cells hb]; exact hc
  clear hb hc
  go_enter Tryz.func60, Tryz.ntmps60
  go_wp2_with fail
  go_loopw [3, 4] (fun vo vi wr => vo = .slice none 0 0 ∧ vi = .int .i64 0 ∧ wr = w) (fun _ vi _ => 0)
  case atStart => exact ⟨rfl, rfl, rfl⟩
  case round =>
    obtain ⟨rfl, rfl, rfl⟩ := hrel
    go_wp2_with fail
    go_ret
    exact ⟨rfl, Below.refl _ _⟩
set_option maxHeartbeats 1000000 in
theorem markedAccounts_nil (w : World) :
    Calls Tryz.prog 70 #[.slice none 0 0] w fun e w' => e = .returned (.bool true) ∧ Below w.heap.size w w' := by
  go_enter Tryz.func70, Tryz.ntmps70
  go_wp2_with fail
  go_loopw [3] (fun vi wr => vi = .int .i64 0 ∧ wr = w) (fun vi _ => 0)
  case atStart => exact ⟨rfl, rfl⟩
  case round =>
    obtain ⟨rfl, rfl⟩ := hrel
    go_wp2_with fail
    go_ret
    exact ⟨rfl, Below.refl _ _⟩
set_option maxHeartbeats 1000000 in
theorem stillBalances_nil (b : Nat) (cs : Array Value) (w : World) (hb : w.heap[b]? = some (.cells cs 48 (0, 0))) (hc : cs[6]? = some (.slice none 0 0)) :
    Calls Tryz.prog 41 #[.pointer (some ⟨b, 0, none⟩)] w fun e w' => e = .returned (.bool true) ∧ Below w.heap.size w w' := by
  have hbl := blk_lt hb
  have hcell : w.cell? ⟨b, 6, none⟩ = some (.slice none 0 0) := by rw [blk_cells hb]; exact hc
  clear hb hc
  go_enter Tryz.func41, Tryz.ntmps41
  go_wp2_with fail
  go_loopw [3] (fun vi wr => vi = .int .i64 0 ∧ wr = w) (fun vi _ => 0)
  case atStart => exact ⟨rfl, rfl⟩
  case round =>
    obtain ⟨rfl, rfl⟩ := hrel
    go_wp2_with fail
    go_ret
    exact ⟨rfl, Below.refl _ _⟩
set_option maxHeartbeats 1000000 in
theorem putBalances_nil (b : Nat) (cs : Array Value) (w : World) (hb : w.heap[b]? = some (.cells cs 48 (0, 0))) (hc : cs[6]? = some (.slice none 0 0)) :
    Calls Tryz.prog 53 #[.pointer (some ⟨b, 0, none⟩)] w fun e w' => e = .returned (.tuple #[]) ∧ Below w.heap.size w w' := by
  have hbl := blk_lt hb
  have hcell : w.cell? ⟨b, 6, none⟩ = some (.slice none 0 0) := by rw [blk_cells hb]; exact hc
  clear hb hc
  go_enter Tryz.func53, Tryz.ntmps53
  go_wp2_with fail
  go_loopw [2] (fun vi wr => vi = .int .i64 0 ∧ wr = w) (fun vi _ => 0)
  case atStart => exact ⟨rfl, rfl⟩
  case round =>
    obtain ⟨rfl, rfl⟩ := hrel
    go_wp2_with fail
    go_end0
    exact ⟨rfl, Below.refl _ _⟩
set_option maxHeartbeats 1000000 in
theorem growBalances_nil (b : Nat) (cs : Array Value) (w : World) (hb : w.heap[b]? = some (.cells cs 48 (0, 0))) (hc : cs[6]? = some (.slice none 0 0)) :
    Calls Tryz.prog 61 #[.pointer (some ⟨b, 0, none⟩)] w fun e w' => e = .returned (.slice none 0 0) ∧ Below w.heap.size w w' := by
  have hbl := blk_lt hb
  have hcell : w.cell? ⟨b, 6, none⟩ = some (.slice none 0 0) := by rw [blk_cells hb]; exact hc
  clear hb hc
  go_enter Tryz.func61, Tryz.ntmps61
  go_wp2_with fail
  go_loopw [3, 4] (fun vo vi wr => vo = .slice none 0 0 ∧ vi = .int .i64 0 ∧ wr = w) (fun _ vi _ => 0)
  case atStart => exact ⟨rfl, rfl, rfl⟩
  case round =>
    obtain ⟨rfl, rfl, rfl⟩ := hrel
    go_wp2_with fail
    go_ret
    exact ⟨rfl, Below.refl _ _⟩
set_option maxHeartbeats 1000000 in
theorem markedBalances_nil (w : World) :
    Calls Tryz.prog 71 #[.slice none 0 0] w fun e w' => e = .returned (.bool true) ∧ Below w.heap.size w w' := by
  go_enter Tryz.func71, Tryz.ntmps71
  go_wp2_with fail
  go_loopw [3] (fun vi wr => vi = .int .i64 0 ∧ wr = w) (fun vi _ => 0)
  case atStart => exact ⟨rfl, rfl⟩
  case round =>
    obtain ⟨rfl, rfl⟩ := hrel
    go_wp2_with fail
    go_ret
    exact ⟨rfl, Below.refl _ _⟩
set_option maxHeartbeats 1000000 in
theorem stillLines_nil (b : Nat) (cs : Array Value) (w : World) (hb : w.heap[b]? = some (.cells cs 48 (0, 0))) (hc : cs[8]? = some (.slice none 0 0)) :
    Calls Tryz.prog 42 #[.pointer (some ⟨b, 0, none⟩)] w fun e w' => e = .returned (.bool true) ∧ Below w.heap.size w w' := by
  have hbl := blk_lt hb
  have hcell : w.cell? ⟨b, 8, none⟩ = some (.slice none 0 0) := by rw [blk_cells hb]; exact hc
  clear hb hc
  go_enter Tryz.func42, Tryz.ntmps42
  go_wp2_with fail
  go_loopw [3] (fun vi wr => vi = .int .i64 0 ∧ wr = w) (fun vi _ => 0)
  case atStart => exact ⟨rfl, rfl⟩
  case round =>
    obtain ⟨rfl, rfl⟩ := hrel
    go_wp2_with fail
    go_ret
    exact ⟨rfl, Below.refl _ _⟩
set_option maxHeartbeats 1000000 in
theorem putLines_nil (b : Nat) (cs : Array Value) (w : World) (hb : w.heap[b]? = some (.cells cs 48 (0, 0))) (hc : cs[8]? = some (.slice none 0 0)) :
    Calls Tryz.prog 54 #[.pointer (some ⟨b, 0, none⟩)] w fun e w' => e = .returned (.tuple #[]) ∧ Below w.heap.size w w' := by
  have hbl := blk_lt hb
  have hcell : w.cell? ⟨b, 8, none⟩ = some (.slice none 0 0) := by rw [blk_cells hb]; exact hc
  clear hb hc
  go_enter Tryz.func54, Tryz.ntmps54
  go_wp2_with fail
  go_loopw [2] (fun vi wr => vi = .int .i64 0 ∧ wr = w) (fun vi _ => 0)
  case atStart => exact ⟨rfl, rfl⟩
  case round =>
    obtain ⟨rfl, rfl⟩ := hrel
    go_wp2_with fail
    go_end0
    exact ⟨rfl, Below.refl _ _⟩
set_option maxHeartbeats 1000000 in
theorem growLines_nil (b : Nat) (cs : Array Value) (w : World) (hb : w.heap[b]? = some (.cells cs 48 (0, 0))) (hc : cs[8]? = some (.slice none 0 0)) :
    Calls Tryz.prog 62 #[.pointer (some ⟨b, 0, none⟩)] w fun e w' => e = .returned (.slice none 0 0) ∧ Below w.heap.size w w' := by
  have hbl := blk_lt hb
  have hcell : w.cell? ⟨b, 8, none⟩ = some (.slice none 0 0) := by rw [blk_cells hb]; exact hc
  clear hb hc
  go_enter Tryz.func62, Tryz.ntmps62
  go_wp2_with fail
  go_loopw [3, 4] (fun vo vi wr => vo = .slice none 0 0 ∧ vi = .int .i64 0 ∧ wr = w) (fun _ vi _ => 0)
  case atStart => exact ⟨rfl, rfl, rfl⟩
  case round =>
    obtain ⟨rfl, rfl, rfl⟩ := hrel
    go_wp2_with fail
    go_ret
    exact ⟨rfl, Below.refl _ _⟩
set_option maxHeartbeats 1000000 in
theorem markedLines_nil (w : World) :
    Calls Tryz.prog 72 #[.slice none 0 0] w fun e w' => e = .returned (.bool true) ∧ Below w.heap.size w w' := by
  go_enter Tryz.func72, Tryz.ntmps72
  go_wp2_with fail
  go_loopw [3] (fun vi wr => vi = .int .i64 0 ∧ wr = w) (fun vi _ => 0)
  case atStart => exact ⟨rfl, rfl⟩
  case round =>
    obtain ⟨rfl, rfl⟩ := hrel
    go_wp2_with fail
    go_ret
    exact ⟨rfl, Below.refl _ _⟩
set_option maxHeartbeats 1000000 in
theorem stillJournals_nil (b : Nat) (cs : Array Value) (w : World) (hb : w.heap[b]? = some (.cells cs 48 (0, 0))) (hc : cs[10]? = some (.slice none 0 0)) :
    Calls Tryz.prog 43 #[.pointer (some ⟨b, 0, none⟩)] w fun e w' => e = .returned (.bool true) ∧ Below w.heap.size w w' := by
  have hbl := blk_lt hb
  have hcell : w.cell? ⟨b, 10, none⟩ = some (.slice none 0 0) := by rw [blk_cells hb]; exact hc
  clear hb hc
  go_enter Tryz.func43, Tryz.ntmps43
  go_wp2_with fail
  go_loopw [3] (fun vi wr => vi = .int .i64 0 ∧ wr = w) (fun vi _ => 0)
  case atStart => exact ⟨rfl, rfl⟩
  case round =>
    obtain ⟨rfl, rfl⟩ := hrel
    go_wp2_with fail
    go_ret
    exact ⟨rfl, Below.refl _ _⟩
set_option maxHeartbeats 1000000 in
theorem putJournals_nil (b : Nat) (cs : Array Value) (w : World) (hb : w.heap[b]? = some (.cells cs 48 (0, 0))) (hc : cs[10]? = some (.slice none 0 0)) :
    Calls Tryz.prog 48 #[.pointer (some ⟨b, 0, none⟩)] w fun e w' => e = .returned (.tuple #[]) ∧ Below w.heap.size w w' := by
  have hbl := blk_lt hb
  have hcell : w.cell? ⟨b, 10, none⟩ = some (.slice none 0 0) := by rw [blk_cells hb]; exact hc
  clear hb hc
  go_enter Tryz.func48, Tryz.ntmps48
  go_wp2_with fail
  go_loopw [2] (fun vi wr => vi = .int .i64 0 ∧ wr = w) (fun vi _ => 0)
  case atStart => exact ⟨rfl, rfl⟩
  case round =>
    obtain ⟨rfl, rfl⟩ := hrel
    go_wp2_with fail
    go_end0
    exact ⟨rfl, Below.refl _ _⟩
set_option maxHeartbeats 1000000 in
theorem growJournals_nil (b : Nat) (cs : Array Value) (w : World) (hb : w.heap[b]? = some (.cells cs 48 (0, 0))) (hc : cs[10]? = some (.slice none 0 0)) :
    Calls Tryz.prog 63 #[.pointer (some ⟨b, 0, none⟩)] w fun e w' => e = .returned (.slice none 0 0) ∧ Below w.heap.size w w' := by
  have hbl := blk_lt hb
  have hcell : w.cell? ⟨b, 10, none⟩ = some (.slice none 0 0) := by rw [blk_cells hb]; exact hc
  clear hb hc
  go_enter Tryz.func63, Tryz.ntmps63
  go_wp2_with fail
  go_loopw [3, 4] (fun vo vi wr => vo = .slice none 0 0 ∧ vi = .int .i64 0 ∧ wr = w) (fun _ vi _ => 0)
  case atStart => exact ⟨rfl, rfl, rfl⟩
  case round =>
    obtain ⟨rfl, rfl, rfl⟩ := hrel
    go_wp2_with fail
    go_ret
    exact ⟨rfl, Below.refl _ _⟩
set_option maxHeartbeats 1000000 in
theorem markedJournals_nil (w : World) :
    Calls Tryz.prog 73 #[.slice none 0 0] w fun e w' => e = .returned (.bool true) ∧ Below w.heap.size w w' := by
  go_enter Tryz.func73, Tryz.ntmps73
  go_wp2_with fail
  go_loopw [3] (fun vi wr => vi = .int .i64 0 ∧ wr = w) (fun vi _ => 0)
  case atStart => exact ⟨rfl, rfl⟩
  case round =>
    obtain ⟨rfl, rfl⟩ := hrel
    go_wp2_with fail
    go_ret
    exact ⟨rfl, Below.refl _ _⟩
set_option maxHeartbeats 1000000 in
theorem stillChanges_nil (b : Nat) (cs : Array Value) (w : World) (hb : w.heap[b]? = some (.cells cs 48 (0, 0))) (hc : cs[12]? = some (.slice none 0 0)) :
    Calls Tryz.prog 44 #[.pointer (some ⟨b, 0, none⟩)] w fun e w' => e = .returned (.bool true) ∧ Below w.heap.size w w' := by
  have hbl := blk_lt hb
  have hcell : w.cell? ⟨b, 12, none⟩ = some (.slice none 0 0) := by rw [blk_cells hb]; exact hc
  clear hb hc
  go_enter Tryz.func44, Tryz.ntmps44
  go_wp2_with fail
  go_loopw [3] (fun vi wr => vi = .int .i64 0 ∧ wr = w) (fun vi _ => 0)
  case atStart => exact ⟨rfl, rfl⟩
  case round =>
    obtain ⟨rfl, rfl⟩ := hrel
    go_wp2_with fail
    go_ret
    exact ⟨rfl, Below.refl _ _⟩
set_option maxHeartbeats 1000000 in
theorem putChanges_nil (b : Nat) (cs : Array Value) (w : World) (hb : w.heap[b]? = some (.cells cs 48 (0, 0))) (hc : cs[12]? = some (.slice none 0 0)) :
    Calls Tryz.prog 49 #[.pointer (some ⟨b, 0, none⟩)] w fun e w' => e = .returned (.tuple #[]) ∧ Below w.heap.size w w' := by
  have hbl := blk_lt hb
  have hcell : w.cell? ⟨b, 12, none⟩ = some (.slice none 0 0) := by rw [blk_cells hb]; exact hc
  clear hb hc
  go_enter Tryz.func49, Tryz.ntmps49
  go_wp2_with fail
  go_loopw [2] (fun vi wr => vi = .int .i64 0 ∧ wr = w) (fun vi _ => 0)
  case atStart => exact ⟨rfl, rfl⟩
  case round =>
    obtain ⟨rfl, rfl⟩ := hrel
    go_wp2_with fail
    go_end0
    exact ⟨rfl, Below.refl _ _⟩
set_option maxHeartbeats 1000000 in
theorem growChanges_nil (b : Nat) (cs : Array Value) (w : World) (hb : w.heap[b]? = some (.cells cs 48 (0, 0))) (hc : cs[12]? = some (.slice none 0 0)) :
    Calls Tryz.prog 64 #[.pointer (some ⟨b, 0, none⟩)] w fun e w' => e = .returned (.slice none 0 0) ∧ Below w.heap.size w w' := by
  have hbl := blk_lt hb
  have hcell : w.cell? ⟨b, 12, none⟩ = some (.slice none 0 0) := by rw [blk_cells hb]; exact hc
  clear hb hc
  go_enter Tryz.func64, Tryz.ntmps64
  go_wp2_with fail
  go_loopw [3, 4] (fun vo vi wr => vo = .slice none 0 0 ∧ vi = .int .i64 0 ∧ wr = w) (fun _ vi _ => 0)
  case atStart => exact ⟨rfl, rfl, rfl⟩
  case round =>
    obtain ⟨rfl, rfl, rfl⟩ := hrel
    go_wp2_with fail
    go_ret
    exact ⟨rfl, Below.refl _ _⟩
set_option maxHeartbeats 1000000 in
theorem markedChanges_nil (w : World) :
    Calls Tryz.prog 74 #[.slice none 0 0] w fun e w' => e = .returned (.bool true) ∧ Below w.heap.size w w' := by
  go_enter Tryz.func74, Tryz.ntmps74
  go_wp2_with fail
  go_loopw [3] (fun vi wr => vi = .int .i64 0 ∧ wr = w) (fun vi _ => 0)
  case atStart => exact ⟨rfl, rfl⟩
  case round =>
    obtain ⟨rfl, rfl⟩ := hrel
    go_wp2_with fail
    go_ret
    exact ⟨rfl, Below.refl _ _⟩
set_option maxHeartbeats 1000000 in
theorem stillConflicts_nil (b : Nat) (cs : Array Value) (w : World) (hb : w.heap[b]? = some (.cells cs 48 (0, 0))) (hc : cs[14]? = some (.slice none 0 0)) :
    Calls Tryz.prog 45 #[.pointer (some ⟨b, 0, none⟩)] w fun e w' => e = .returned (.bool true) ∧ Below w.heap.size w w' := by
  have hbl := blk_lt hb
  have hcell : w.cell? ⟨b, 14, none⟩ = some (.slice none 0 0) := by rw [blk_cells hb]; exact hc
  clear hb hc
  go_enter Tryz.func45, Tryz.ntmps45
  go_wp2_with fail
  go_loopw [3] (fun vi wr => vi = .int .i64 0 ∧ wr = w) (fun vi _ => 0)
  case atStart => exact ⟨rfl, rfl⟩
  case round =>
    obtain ⟨rfl, rfl⟩ := hrel
    go_wp2_with fail
    go_ret
    exact ⟨rfl, Below.refl _ _⟩
set_option maxHeartbeats 1000000 in
theorem putConflicts_nil (b : Nat) (cs : Array Value) (w : World) (hb : w.heap[b]? = some (.cells cs 48 (0, 0))) (hc : cs[14]? = some (.slice none 0 0)) :
    Calls Tryz.prog 55 #[.pointer (some ⟨b, 0, none⟩)] w fun e w' => e = .returned (.tuple #[]) ∧ Below w.heap.size w w' := by
  have hbl := blk_lt hb
  have hcell : w.cell? ⟨b, 14, none⟩ = some (.slice none 0 0) := by rw [blk_cells hb]; exact hc
  clear hb hc
  go_enter Tryz.func55, Tryz.ntmps55
  go_wp2_with fail
  go_loopw [2] (fun vi wr => vi = .int .i64 0 ∧ wr = w) (fun vi _ => 0)
  case atStart => exact ⟨rfl, rfl⟩
  case round =>
    obtain ⟨rfl, rfl⟩ := hrel
    go_wp2_with fail
    go_end0
    exact ⟨rfl, Below.refl _ _⟩
set_option maxHeartbeats 1000000 in
theorem growConflicts_nil (b : Nat) (cs : Array Value) (w : World) (hb : w.heap[b]? = some (.cells cs 48 (0, 0))) (hc : cs[14]? = some (.slice none 0 0)) :
    Calls Tryz.prog 65 #[.pointer (some ⟨b, 0, none⟩)] w fun e w' => e = .returned (.slice none 0 0) ∧ Below w.heap.size w w' := by
  have hbl := blk_lt hb
  have hcell : w.cell? ⟨b, 14, none⟩ = some (.slice none 0 0) := by rw [blk_cells hb]; exact hc
  clear hb hc
  go_enter Tryz.func65, Tryz.ntmps65
  go_wp2_with fail
  go_loopw [3, 4] (fun vo vi wr => vo = .slice none 0 0 ∧ vi = .int .i64 0 ∧ wr = w) (fun _ vi _ => 0)
  case atStart => exact ⟨rfl, rfl, rfl⟩
  case round =>
    obtain ⟨rfl, rfl, rfl⟩ := hrel
    go_wp2_with fail
    go_ret
    exact ⟨rfl, Below.refl _ _⟩
set_option maxHeartbeats 1000000 in
theorem markedConflicts_nil (w : World) :
    Calls Tryz.prog 75 #[.slice none 0 0] w fun e w' => e = .returned (.bool true) ∧ Below w.heap.size w w' := by
  go_enter Tryz.func75, Tryz.ntmps75
  go_wp2_with fail
  go_loopw [3] (fun vi wr => vi = .int .i64 0 ∧ wr = w) (fun vi _ => 0)
  case atStart => exact ⟨rfl, rfl⟩
  case round =>
    obtain ⟨rfl, rfl⟩ := hrel
    go_wp2_with fail
    go_ret
    exact ⟨rfl, Below.refl _ _⟩
set_option maxHeartbeats 1000000 in
theorem stillTrios_nil (b : Nat) (cs : Array Value) (w : World) (hb : w.heap[b]? = some (.cells cs 48 (0, 0))) (hc : cs[16]? = some (.slice none 0 0)) :
    Calls Tryz.prog 46 #[.pointer (some ⟨b, 0, none⟩)] w fun e w' => e = .returned (.bool true) ∧ Below w.heap.size w w' := by
  have hbl := blk_lt hb
  have hcell : w.cell? ⟨b, 16, none⟩ = some (.slice none 0 0) := by rw [blk_cells hb]; exact hc
  clear hb hc
  go_enter Tryz.func46, Tryz.ntmps46
  go_wp2_with fail
  go_loopw [3] (fun vi wr => vi = .int .i64 0 ∧ wr = w) (fun vi _ => 0)
  case atStart => exact ⟨rfl, rfl⟩
  case round =>
    obtain ⟨rfl, rfl⟩ := hrel
    go_wp2_with fail
    go_ret
    exact ⟨rfl, Below.refl _ _⟩
set_option maxHeartbeats 1000000 in
theorem putTrios_nil (b : Nat) (cs : Array Value) (w : World) (hb : w.heap[b]? = some (.cells cs 48 (0, 0))) (hc : cs[16]? = some (.slice none 0 0)) :
    Calls Tryz.prog 56 #[.pointer (some ⟨b, 0, none⟩)] w fun e w' => e = .returned (.tuple #[]) ∧ Below w.heap.size w w' := by
  have hbl := blk_lt hb
  have hcell : w.cell? ⟨b, 16, none⟩ = some (.slice none 0 0) := by rw [blk_cells hb]; exact hc
  clear hb hc
  go_enter Tryz.func56, Tryz.ntmps56
  go_wp2_with fail
  go_loopw [2] (fun vi wr => vi = .int .i64 0 ∧ wr = w) (fun vi _ => 0)
  case atStart => exact ⟨rfl, rfl⟩
  case round =>
    obtain ⟨rfl, rfl⟩ := hrel
    go_wp2_with fail
    go_end0
    exact ⟨rfl, Below.refl _ _⟩
set_option maxHeartbeats 1000000 in
theorem growTrios_nil (b : Nat) (cs : Array Value) (w : World) (hb : w.heap[b]? = some (.cells cs 48 (0, 0))) (hc : cs[16]? = some (.slice none 0 0)) :
    Calls Tryz.prog 66 #[.pointer (some ⟨b, 0, none⟩)] w fun e w' => e = .returned (.slice none 0 0) ∧ Below w.heap.size w w' := by
  have hbl := blk_lt hb
  have hcell : w.cell? ⟨b, 16, none⟩ = some (.slice none 0 0) := by rw [blk_cells hb]; exact hc
  clear hb hc
  go_enter Tryz.func66, Tryz.ntmps66
  go_wp2_with fail
  go_loopw [3, 4] (fun vo vi wr => vo = .slice none 0 0 ∧ vi = .int .i64 0 ∧ wr = w) (fun _ vi _ => 0)
  case atStart => exact ⟨rfl, rfl, rfl⟩
  case round =>
    obtain ⟨rfl, rfl, rfl⟩ := hrel
    go_wp2_with fail
    go_ret
    exact ⟨rfl, Below.refl _ _⟩
set_option maxHeartbeats 1000000 in
theorem markedTrios_nil (w : World) :
    Calls Tryz.prog 76 #[.slice none 0 0] w fun e w' => e = .returned (.bool true) ∧ Below w.heap.size w w' := by
  go_enter Tryz.func76, Tryz.ntmps76
  go_wp2_with fail
  go_loopw [3] (fun vi wr => vi = .int .i64 0 ∧ wr = w) (fun vi _ => 0)
  case atStart => exact ⟨rfl, rfl⟩
  case round =>
    obtain ⟨rfl, rfl⟩ := hrel
    go_wp2_with fail
    go_ret
    exact ⟨rfl, Below.refl _ _⟩
set_option maxHeartbeats 1000000 in
theorem stillPairs_nil (b : Nat) (cs : Array Value) (w : World) (hb : w.heap[b]? = some (.cells cs 48 (0, 0))) (hc : cs[18]? = some (.slice none 0 0)) :
    Calls Tryz.prog 47 #[.pointer (some ⟨b, 0, none⟩)] w fun e w' => e = .returned (.bool true) ∧ Below w.heap.size w w' := by
  have hbl := blk_lt hb
  have hcell : w.cell? ⟨b, 18, none⟩ = some (.slice none 0 0) := by rw [blk_cells hb]; exact hc
  clear hb hc
  go_enter Tryz.func47, Tryz.ntmps47
  go_wp2_with fail
  go_loopw [3] (fun vi wr => vi = .int .i64 0 ∧ wr = w) (fun vi _ => 0)
  case atStart => exact ⟨rfl, rfl⟩
  case round =>
    obtain ⟨rfl, rfl⟩ := hrel
    go_wp2_with fail
    go_ret
    exact ⟨rfl, Below.refl _ _⟩
set_option maxHeartbeats 1000000 in
theorem putPairs_nil (b : Nat) (cs : Array Value) (w : World) (hb : w.heap[b]? = some (.cells cs 48 (0, 0))) (hc : cs[18]? = some (.slice none 0 0)) :
    Calls Tryz.prog 57 #[.pointer (some ⟨b, 0, none⟩)] w fun e w' => e = .returned (.tuple #[]) ∧ Below w.heap.size w w' := by
  have hbl := blk_lt hb
  have hcell : w.cell? ⟨b, 18, none⟩ = some (.slice none 0 0) := by rw [blk_cells hb]; exact hc
  clear hb hc
  go_enter Tryz.func57, Tryz.ntmps57
  go_wp2_with fail
  go_loopw [2] (fun vi wr => vi = .int .i64 0 ∧ wr = w) (fun vi _ => 0)
  case atStart => exact ⟨rfl, rfl⟩
  case round =>
    obtain ⟨rfl, rfl⟩ := hrel
    go_wp2_with fail
    go_end0
    exact ⟨rfl, Below.refl _ _⟩
set_option maxHeartbeats 1000000 in
theorem growPairs_nil (b : Nat) (cs : Array Value) (w : World) (hb : w.heap[b]? = some (.cells cs 48 (0, 0))) (hc : cs[18]? = some (.slice none 0 0)) :
    Calls Tryz.prog 67 #[.pointer (some ⟨b, 0, none⟩)] w fun e w' => e = .returned (.slice none 0 0) ∧ Below w.heap.size w w' := by
  have hbl := blk_lt hb
  have hcell : w.cell? ⟨b, 18, none⟩ = some (.slice none 0 0) := by rw [blk_cells hb]; exact hc
  clear hb hc
  go_enter Tryz.func67, Tryz.ntmps67
  go_wp2_with fail
  go_loopw [3, 4] (fun vo vi wr => vo = .slice none 0 0 ∧ vi = .int .i64 0 ∧ wr = w) (fun _ vi _ => 0)
  case atStart => exact ⟨rfl, rfl, rfl⟩
  case round =>
    obtain ⟨rfl, rfl, rfl⟩ := hrel
    go_wp2_with fail
    go_ret
    exact ⟨rfl, Below.refl _ _⟩
set_option maxHeartbeats 1000000 in
theorem markedPairs_nil (w : World) :
    Calls Tryz.prog 77 #[.slice none 0 0] w fun e w' => e = .returned (.bool true) ∧ Below w.heap.size w w' := by
  go_enter Tryz.func77, Tryz.ntmps77
  go_wp2_with fail
  go_loopw [3] (fun vi wr => vi = .int .i64 0 ∧ wr = w) (fun vi _ => 0)
  case atStart => exact ⟨rfl, rfl⟩
  case round =>
    obtain ⟨rfl, rfl⟩ := hrel
    go_wp2_with fail
    go_ret
    exact ⟨rfl, Below.refl _ _⟩
end Go.Proofs.YtgggpaacagbmcaaGreat
