/- variorumbook: still, put, grow, marked of the kinds of which nothing is kept. Printed by mknil.py. -/
import Derived.Test.YtfnmlpnncjhnmaaGreatX35TrialTells
set_option linter.unusedVariables false
set_option linter.unusedSimpArgs false
namespace Go.Proofs.YtfnmlpnncjhnmaaGreat
open Go.RowKit Go.Maps

set_option maxHeartbeats 1000000 in
theorem stillTexts_nil (b : Nat) (cs : Array Value) (w : World) (hb : w.heap[b]? = some (.cells cs 48 (0, 0))) (hc : cs[0]? = some (.slice none 0 0)) :
    Calls Tryz.prog 50 #[.pointer (some ⟨b, 0, none⟩)] w fun e w' => e = .returned (.bool true) ∧ Below w.heap.size w w' := by
  have hbl := blk_lt hb
  have hcell : w.cell? ⟨b, 0, none⟩ = some (.slice none 0 0) := by rw [blk_cells hb]; exact hc
  clear hb hc
  go_enter Tryz.func50, Tryz.ntmps50
  go_wp2_with fail
  go_loopw [3] (fun vi wr => vi = .int .i64 0 ∧ wr = w) (fun vi _ => 0)
  case atStart => exact ⟨rfl, rfl⟩
  case round =>
    obtain ⟨rfl, rfl⟩ := hrel
    go_wp2_with fail
    go_ret
    exact ⟨rfl, Below.refl _ _⟩
set_option maxHeartbeats 1000000 in
theorem putTexts_nil (b : Nat) (cs : Array Value) (w : World) (hb : w.heap[b]? = some (.cells cs 48 (0, 0))) (hc : cs[0]? = some (.slice none 0 0)) :
    Calls Tryz.prog 62 #[.pointer (some ⟨b, 0, none⟩)] w fun e w' => e = .returned (.tuple #[]) ∧ Below w.heap.size w w' := by
  have hbl := blk_lt hb
  have hcell : w.cell? ⟨b, 0, none⟩ = some (.slice none 0 0) := by rw [blk_cells hb]; exact hc
  clear hb hc
  go_enter Tryz.func62, Tryz.ntmps62
  go_wp2_with fail
  go_loopw [2] (fun vi wr => vi = .int .i64 0 ∧ wr = w) (fun vi _ => 0)
  case atStart => exact ⟨rfl, rfl⟩
  case round =>
    obtain ⟨rfl, rfl⟩ := hrel
    go_wp2_with fail
    go_end0
    exact ⟨rfl, Below.refl _ _⟩
set_option maxHeartbeats 1000000 in
theorem growTexts_nil (b : Nat) (cs : Array Value) (w : World) (hb : w.heap[b]? = some (.cells cs 48 (0, 0))) (hc : cs[0]? = some (.slice none 0 0)) :
    Calls Tryz.prog 70 #[.pointer (some ⟨b, 0, none⟩)] w fun e w' => e = .returned (.slice none 0 0) ∧ Below w.heap.size w w' := by
  have hbl := blk_lt hb
  have hcell : w.cell? ⟨b, 0, none⟩ = some (.slice none 0 0) := by rw [blk_cells hb]; exact hc
  clear hb hc
  go_enter Tryz.func70, Tryz.ntmps70
  go_wp2_with fail
  go_loopw [3, 4] (fun vo vi wr => vo = .slice none 0 0 ∧ vi = .int .i64 0 ∧ wr = w) (fun _ vi _ => 0)
  case atStart => exact ⟨rfl, rfl, rfl⟩
  case round =>
    obtain ⟨rfl, rfl, rfl⟩ := hrel
    go_wp2_with fail
    go_ret
    exact ⟨rfl, Below.refl _ _⟩
set_option maxHeartbeats 1000000 in
theorem markedTexts_nil (w : World) :
    Calls Tryz.prog 80 #[.slice none 0 0] w fun e w' => e = .returned (.bool true) ∧ Below w.heap.size w w' := by
  go_enter Tryz.func80, Tryz.ntmps80
  go_wp2_with fail
  go_loopw [3] (fun vi wr => vi = .int .i64 0 ∧ wr = w) (fun vi _ => 0)
  case atStart => exact ⟨rfl, rfl⟩
  case round =>
    obtain ⟨rfl, rfl⟩ := hrel
    go_wp2_with fail
    go_ret
    exact ⟨rfl, Below.refl _ _⟩
set_option maxHeartbeats 1000000 in
theorem stillInts_nil (b : Nat) (cs : Array Value) (w : World) (hb : w.heap[b]? = some (.cells cs 48 (0, 0))) (hc : cs[2]? = some (.slice none 0 0)) :
    Calls Tryz.prog 51 #[.pointer (some ⟨b, 0, none⟩)] w fun e w' => e = .returned (.bool true) ∧ Below w.heap.size w w' := by
  have hbl := blk_lt hb
  have hcell : w.cell? ⟨b, 2, none⟩ = some (.slice none 0 0) := by rw [blk_cells hb]; exact hc
  clear hb hc
  go_enter Tryz.func51, Tryz.ntmps51
  go_wp2_with fail
  go_loopw [3] (fun vi wr => vi = .int .i64 0 ∧ wr = w) (fun vi _ => 0)
  case atStart => exact ⟨rfl, rfl⟩
  case round =>
    obtain ⟨rfl, rfl⟩ := hrel
    go_wp2_with fail
    go_ret
    exact ⟨rfl, Below.refl _ _⟩
set_option maxHeartbeats 1000000 in
theorem putInts_nil (b : Nat) (cs : Array Value) (w : World) (hb : w.heap[b]? = some (.cells cs 48 (0, 0))) (hc : cs[2]? = some (.slice none 0 0)) :
    Calls Tryz.prog 63 #[.pointer (some ⟨b, 0, none⟩)] w fun e w' => e = .returned (.tuple #[]) ∧ Below w.heap.size w w' := by
  have hbl := blk_lt hb
  have hcell : w.cell? ⟨b, 2, none⟩ = some (.slice none 0 0) := by rw [blk_cells hb]; exact hc
  clear hb hc
  go_enter Tryz.func63, Tryz.ntmps63
  go_wp2_with fail
  go_loopw [2] (fun vi wr => vi = .int .i64 0 ∧ wr = w) (fun vi _ => 0)
  case atStart => exact ⟨rfl, rfl⟩
  case round =>
    obtain ⟨rfl, rfl⟩ := hrel
    go_wp2_with fail
    go_end0
    exact ⟨rfl, Below.refl _ _⟩
set_option maxHeartbeats 1000000 in
theorem growInts_nil (b : Nat) (cs : Array Value) (w : World) (hb : w.heap[b]? = some (.cells cs 48 (0, 0))) (hc : cs[2]? = some (.slice none 0 0)) :
    Calls Tryz.prog 71 #[.pointer (some ⟨b, 0, none⟩)] w fun e w' => e = .returned (.slice none 0 0) ∧ Below w.heap.size w w' := by
  have hbl := blk_lt hb
  have hcell : w.cell? ⟨b, 2, none⟩ = some (.slice none 0 0) := by rw [blk_cells hb]; exact hc
  clear hb hc
  go_enter Tryz.func71, Tryz.ntmps71
  go_wp2_with fail
  go_loopw [3, 4] (fun vo vi wr => vo = .slice none 0 0 ∧ vi = .int .i64 0 ∧ wr = w) (fun _ vi _ => 0)
  case atStart => exact ⟨rfl, rfl, rfl⟩
  case round =>
    obtain ⟨rfl, rfl, rfl⟩ := hrel
    go_wp2_with fail
    go_ret
    exact ⟨rfl, Below.refl _ _⟩
set_option maxHeartbeats 1000000 in
theorem markedInts_nil (w : World) :
    Calls Tryz.prog 81 #[.slice none 0 0] w fun e w' => e = .returned (.bool true) ∧ Below w.heap.size w w' := by
  go_enter Tryz.func81, Tryz.ntmps81
  go_wp2_with fail
  go_loopw [3] (fun vi wr => vi = .int .i64 0 ∧ wr = w) (fun vi _ => 0)
  case atStart => exact ⟨rfl, rfl⟩
  case round =>
    obtain ⟨rfl, rfl⟩ := hrel
    go_wp2_with fail
    go_ret
    exact ⟨rfl, Below.refl _ _⟩
set_option maxHeartbeats 1000000 in
theorem stillAccounts_nil (b : Nat) (cs : Array Value) (w : World) (hb : w.heap[b]? = some (.cells cs 48 (0, 0))) (hc : cs[4]? = some (.slice none 0 0)) :
    Calls Tryz.prog 52 #[.pointer (some ⟨b, 0, none⟩)] w fun e w' => e = .returned (.bool true) ∧ Below w.heap.size w w' := by
  have hbl := blk_lt hb
  have hcell : w.cell? ⟨b, 4, none⟩ = some (.slice none 0 0) := by rw [blk_cells hb]; exact hc
  clear hb hc
  go_enter Tryz.func52, Tryz.ntmps52
  go_wp2_with fail
  go_loopw [3] (fun vi wr => vi = .int .i64 0 ∧ wr = w) (fun vi _ => 0)
  case atStart => exact ⟨rfl, rfl⟩
  case round =>
    obtain ⟨rfl, rfl⟩ := hrel
    go_wp2_with fail
    go_ret
    exact ⟨rfl, Below.refl _ _⟩
set_option maxHeartbeats 1000000 in
theorem putAccounts_nil (b : Nat) (cs : Array Value) (w : World) (hb : w.heap[b]? = some (.cells cs 48 (0, 0))) (hc : cs[4]? = some (.slice none 0 0)) :
    Calls Tryz.prog 64 #[.pointer (some ⟨b, 0, none⟩)] w fun e w' => e = .returned (.tuple #[]) ∧ Below w.heap.size w w' := by
  have hbl := blk_lt hb
  have hcell : w.cell? ⟨b, 4, none⟩ = some (.slice none 0 0) := by rw [blk_cells hb]; exact hc
  clear hb hc
  go_enter Tryz.func64, Tryz.ntmps64
  go_wp2_with fail
  go_loopw [2] (fun vi wr => vi = .int .i64 0 ∧ wr = w) (fun vi _ => 0)
  case atStart => exact ⟨rfl, rfl⟩
  case round =>
    obtain ⟨rfl, rfl⟩ := hrel
    go_wp2_with fail
    go_end0
    exact ⟨rfl, Below.refl _ _⟩
set_option maxHeartbeats 1000000 in
theorem growAccounts_nil (b : Nat) (cs : Array Value) (w : World) (hb : w.heap[b]? = some (.cells cs 48 (0, 0))) (hc : cs[4]? = some (.slice none 0 0)) :
    Calls Tryz.prog 72 #[.pointer (some ⟨b, 0, none⟩)] w fun e w' => e = .returned (.slice none 0 0) ∧ Below w.heap.size w w' := by
  have hbl := blk_lt hb
  have hcell : w.cell? ⟨b, 4, none⟩ = some (.slice none 0 0) := by rw [blk_cells hb]; exact hc
  clear hb hc
  go_enter Tryz.func72, Tryz.ntmps72
  go_wp2_with fail
  go_loopw [3, 4] (fun vo vi wr => vo = .slice none 0 0 ∧ vi = .int .i64 0 ∧ wr = w) (fun _ vi _ => 0)
  case atStart => exact ⟨rfl, rfl, rfl⟩
  case round =>
    obtain ⟨rfl, rfl, rfl⟩ := hrel
    go_wp2_with fail
    go_ret
    exact ⟨rfl, Below.refl _ _⟩
set_option maxHeartbeats 1000000 in
theorem markedAccounts_nil (w : World) :
    Calls Tryz.prog 82 #[.slice none 0 0] w fun e w' => e = .returned (.bool true) ∧ Below w.heap.size w w' := by
  go_enter Tryz.func82, Tryz.ntmps82
  go_wp2_with fail
  go_loopw [3] (fun vi wr => vi = .int .i64 0 ∧ wr = w) (fun vi _ => 0)
  case atStart => exact ⟨rfl, rfl⟩
  case round =>
    obtain ⟨rfl, rfl⟩ := hrel
    go_wp2_with fail
    go_ret
    exact ⟨rfl, Below.refl _ _⟩
set_option maxHeartbeats 1000000 in
theorem stillBalances_nil (b : Nat) (cs : Array Value) (w : World) (hb : w.heap[b]? = some (.cells cs 48 (0, 0))) (hc : cs[6]? = some (.slice none 0 0)) :
    Calls Tryz.prog 53 #[.pointer (some ⟨b, 0, none⟩)] w fun e w' => e = .returned (.bool true) ∧ Below w.heap.size w w' := by
  have hbl := blk_lt hb
  have hcell : w.cell? ⟨b, 6, none⟩ = some (.slice none 0 0) := by rw [blk_cells hb]; exact hc
  clear hb hc
  go_enter Tryz.func53, Tryz.ntmps53
  go_wp2_with fail
  go_loopw [3] (fun vi wr => vi = .int .i64 0 ∧ wr = w) (fun vi _ => 0)
  case atStart => exact ⟨rfl, rfl⟩
  case round =>
    obtain ⟨rfl, rfl⟩ := hrel
    go_wp2_with fail
    go_ret
    exact ⟨rfl, Below.refl _ _⟩
set_option maxHeartbeats 1000000 in
theorem putBalances_nil (b : Nat) (cs : Array Value) (w : World) (hb : w.heap[b]? = some (.cells cs 48 (0, 0))) (hc : cs[6]? = some (.slice none 0 0)) :
    Calls Tryz.prog 65 #[.pointer (some ⟨b, 0, none⟩)] w fun e w' => e = .returned (.tuple #[]) ∧ Below w.heap.size w w' := by
  have hbl := blk_lt hb
  have hcell : w.cell? ⟨b, 6, none⟩ = some (.slice none 0 0) := by rw [blk_cells hb]; exact hc
  clear hb hc
  go_enter Tryz.func65, Tryz.ntmps65
  go_wp2_with fail
  go_loopw [2] (fun vi wr => vi = .int .i64 0 ∧ wr = w) (fun vi _ => 0)
  case atStart => exact ⟨rfl, rfl⟩
  case round =>
    obtain ⟨rfl, rfl⟩ := hrel
    go_wp2_with fail
    go_end0
    exact ⟨rfl, Below.refl _ _⟩
set_option maxHeartbeats 1000000 in
theorem growBalances_nil (b : Nat) (cs : Array Value) (w : World) (hb : w.heap[b]? = some (.cells cs 48 (0, 0))) (hc : cs[6]? = some (.slice none 0 0)) :
    Calls Tryz.prog 73 #[.pointer (some ⟨b, 0, none⟩)] w fun e w' => e = .returned (.slice none 0 0) ∧ Below w.heap.size w w' := by
  have hbl := blk_lt hb
  have hcell : w.cell? ⟨b, 6, none⟩ = some (.slice none 0 0) := by rw [blk_cells hb]; exact hc
  clear hb hc
  go_enter Tryz.func73, Tryz.ntmps73
  go_wp2_with fail
  go_loopw [3, 4] (fun vo vi wr => vo = .slice none 0 0 ∧ vi = .int .i64 0 ∧ wr = w) (fun _ vi _ => 0)
  case atStart => exact ⟨rfl, rfl, rfl⟩
  case round =>
    obtain ⟨rfl, rfl, rfl⟩ := hrel
    go_wp2_with fail
    go_ret
    exact ⟨rfl, Below.refl _ _⟩
set_option maxHeartbeats 1000000 in
theorem markedBalances_nil (w : World) :
    Calls Tryz.prog 83 #[.slice none 0 0] w fun e w' => e = .returned (.bool true) ∧ Below w.heap.size w w' := by
  go_enter Tryz.func83, Tryz.ntmps83
  go_wp2_with fail
  go_loopw [3] (fun vi wr => vi = .int .i64 0 ∧ wr = w) (fun vi _ => 0)
  case atStart => exact ⟨rfl, rfl⟩
  case round =>
    obtain ⟨rfl, rfl⟩ := hrel
    go_wp2_with fail
    go_ret
    exact ⟨rfl, Below.refl _ _⟩
set_option maxHeartbeats 1000000 in
theorem stillLines_nil (b : Nat) (cs : Array Value) (w : World) (hb : w.heap[b]? = some (.cells cs 48 (0, 0))) (hc : cs[8]? = some (.slice none 0 0)) :
    Calls Tryz.prog 54 #[.pointer (some ⟨b, 0, none⟩)] w fun e w' => e = .returned (.bool true) ∧ Below w.heap.size w w' := by
  have hbl := blk_lt hb
  have hcell : w.cell? ⟨b, 8, none⟩ = some (.slice none 0 0) := by rw [blk_cells hb]; exact hc
  clear hb hc
  go_enter Tryz.func54, Tryz.ntmps54
  go_wp2_with fail
  go_loopw [3] (fun vi wr => vi = .int .i64 0 ∧ wr = w) (fun vi _ => 0)
  case atStart => exact ⟨rfl, rfl⟩
  case round =>
    obtain ⟨rfl, rfl⟩ := hrel
    go_wp2_with fail
    go_ret
    exact ⟨rfl, Below.refl _ _⟩
set_option maxHeartbeats 1000000 in
theorem putLines_nil (b : Nat) (cs : Array Value) (w : World) (hb : w.heap[b]? = some (.cells cs 48 (0, 0))) (hc : cs[8]? = some (.slice none 0 0)) :
    Calls Tryz.prog 66 #[.pointer (some ⟨b, 0, none⟩)] w fun e w' => e = .returned (.tuple #[]) ∧ Below w.heap.size w w' := by
  have hbl := blk_lt hb
  have hcell : w.cell? ⟨b, 8, none⟩ = some (.slice none 0 0) := by rw [blk_cells hb]; exact hc
  clear hb hc
  go_enter Tryz.func66, Tryz.ntmps66
  go_wp2_with fail
  go_loopw [2] (fun vi wr => vi = .int .i64 0 ∧ wr = w) (fun vi _ => 0)
  case atStart => exact ⟨rfl, rfl⟩
  case round =>
    obtain ⟨rfl, rfl⟩ := hrel
    go_wp2_with fail
    go_end0
    exact ⟨rfl, Below.refl _ _⟩
set_option maxHeartbeats 1000000 in
theorem growLines_nil (b : Nat) (cs : Array Value) (w : World) (hb : w.heap[b]? = some (.cells cs 48 (0, 0))) (hc : cs[8]? = some (.slice none 0 0)) :
    Calls Tryz.prog 74 #[.pointer (some ⟨b, 0, none⟩)] w fun e w' => e = .returned (.slice none 0 0) ∧ Below w.heap.size w w' := by
  have hbl := blk_lt hb
  have hcell : w.cell? ⟨b, 8, none⟩ = some (.slice none 0 0) := by rw [blk_cells hb]; exact hc
  clear hb hc
  go_enter Tryz.func74, Tryz.ntmps74
  go_wp2_with fail
  go_loopw [3, 4] (fun vo vi wr => vo = .slice none 0 0 ∧ vi = .int .i64 0 ∧ wr = w) (fun _ vi _ => 0)
  case atStart => exact ⟨rfl, rfl, rfl⟩
  case round =>
    obtain ⟨rfl, rfl, rfl⟩ := hrel
    go_wp2_with fail
    go_ret
    exact ⟨rfl, Below.refl _ _⟩
set_option maxHeartbeats 1000000 in
theorem markedLines_nil (w : World) :
    Calls Tryz.prog 84 #[.slice none 0 0] w fun e w' => e = .returned (.bool true) ∧ Below w.heap.size w w' := by
  go_enter Tryz.func84, Tryz.ntmps84
  go_wp2_with fail
  go_loopw [3] (fun vi wr => vi = .int .i64 0 ∧ wr = w) (fun vi _ => 0)
  case atStart => exact ⟨rfl, rfl⟩
  case round =>
    obtain ⟨rfl, rfl⟩ := hrel
    go_wp2_with fail
    go_ret
    exact ⟨rfl, Below.refl _ _⟩
set_option maxHeartbeats 1000000 in
theorem stillJournals_nil (b : Nat) (cs : Array Value) (w : World) (hb : w.heap[b]? = some (.cells cs 48 (0, 0))) (hc : cs[10]? = some (.slice none 0 0)) :
    Calls Tryz.prog 55 #[.pointer (some ⟨b, 0, none⟩)] w fun e w' => e = .returned (.bool true) ∧ Below w.heap.size w w' := by
  have hbl := blk_lt hb
  have hcell : w.cell? ⟨b, 10, none⟩ = some (.slice none 0 0) := by rw [blk_cells hb]; exact hc
  clear hb hc
  go_enter Tryz.func55, Tryz.ntmps55
  go_wp2_with fail
  go_loopw [3] (fun vi wr => vi = .int .i64 0 ∧ wr = w) (fun vi _ => 0)
  case atStart => exact ⟨rfl, rfl⟩
  case round =>
    obtain ⟨rfl, rfl⟩ := hrel
    go_wp2_with fail
    go_ret
    exact ⟨rfl, Below.refl _ _⟩
set_option maxHeartbeats 1000000 in
theorem putJournals_nil (b : Nat) (cs : Array Value) (w : World) (hb : w.heap[b]? = some (.cells cs 48 (0, 0))) (hc : cs[10]? = some (.slice none 0 0)) :
    Calls Tryz.prog 60 #[.pointer (some ⟨b, 0, none⟩)] w fun e w' => e = .returned (.tuple #[]) ∧ Below w.heap.size w w' := by
  have hbl := blk_lt hb
  have hcell : w.cell? ⟨b, 10, none⟩ = some (.slice none 0 0) := by rw [blk_cells hb]; exact hc
  clear hb hc
  go_enter Tryz.func60, Tryz.ntmps60
  go_wp2_with fail
  go_loopw [2] (fun vi wr => vi = .int .i64 0 ∧ wr = w) (fun vi _ => 0)
  case atStart => exact ⟨rfl, rfl⟩
  case round =>
    obtain ⟨rfl, rfl⟩ := hrel
    go_wp2_with fail
    go_end0
    exact ⟨rfl, Below.refl _ _⟩
set_option maxHeartbeats 1000000 in
theorem growJournals_nil (b : Nat) (cs : Array Value) (w : World) (hb : w.heap[b]? = some (.cells cs 48 (0, 0))) (hc : cs[10]? = some (.slice none 0 0)) :
    Calls Tryz.prog 75 #[.pointer (some ⟨b, 0, none⟩)] w fun e w' => e = .returned (.slice none 0 0) ∧ Below w.heap.size w w' := by
  have hbl := blk_lt hb
  have hcell : w.cell? ⟨b, 10, none⟩ = some (.slice none 0 0) := by rw [blk_cells hb]; exact hc
  clear hb hc
  go_enter Tryz.func75, Tryz.ntmps75
  go_wp2_with fail
  go_loopw [3, 4] (fun vo vi wr => vo = .slice none 0 0 ∧ vi = .int .i64 0 ∧ wr = w) (fun _ vi _ => 0)
  case atStart => exact ⟨rfl, rfl, rfl⟩
  case round =>
    obtain ⟨rfl, rfl, rfl⟩ := hrel
    go_wp2_with fail
    go_ret
    exact ⟨rfl, Below.refl _ _⟩
set_option maxHeartbeats 1000000 in
theorem markedJournals_nil (w : World) :
    Calls Tryz.prog 85 #[.slice none 0 0] w fun e w' => e = .returned (.bool true) ∧ Below w.heap.size w w' := by
  go_enter Tryz.func85, Tryz.ntmps85
  go_wp2_with fail
  go_loopw [3] (fun vi wr => vi = .int .i64 0 ∧ wr = w) (fun vi _ => 0)
  case atStart => exact ⟨rfl, rfl⟩
  case round =>
    obtain ⟨rfl, rfl⟩ := hrel
    go_wp2_with fail
    go_ret
    exact ⟨rfl, Below.refl _ _⟩
set_option maxHeartbeats 1000000 in
theorem stillChanges_nil (b : Nat) (cs : Array Value) (w : World) (hb : w.heap[b]? = some (.cells cs 48 (0, 0))) (hc : cs[12]? = some (.slice none 0 0)) :
    Calls Tryz.prog 56 #[.pointer (some ⟨b, 0, none⟩)] w fun e w' => e = .returned (.bool true) ∧ Below w.heap.size w w' := by
  have hbl := blk_lt hb
  have hcell : w.cell? ⟨b, 12, none⟩ = some (.slice none 0 0) := by rw [blk_cells hb]; exact hc
  clear hb hc
  go_enter Tryz.func56, Tryz.ntmps56
  go_wp2_with fail
  go_loopw [3] (fun vi wr => vi = .int .i64 0 ∧ wr = w) (fun vi _ => 0)
  case atStart => exact ⟨rfl, rfl⟩
  case round =>
    obtain ⟨rfl, rfl⟩ := hrel
    go_wp2_with fail
    go_ret
    exact ⟨rfl, Below.refl _ _⟩
set_option maxHeartbeats 1000000 in
theorem putChanges_nil (b : Nat) (cs : Array Value) (w : World) (hb : w.heap[b]? = some (.cells cs 48 (0, 0))) (hc : cs[12]? = some (.slice none 0 0)) :
    Calls Tryz.prog 61 #[.pointer (some ⟨b, 0, none⟩)] w fun e w' => e = .returned (.tuple #[]) ∧ Below w.heap.size w w' := by
  have hbl := blk_lt hb
  have hcell : w.cell? ⟨b, 12, none⟩ = some (.slice none 0 0) := by rw [blk_cells hb]; exact hc
  clear hb hc
  go_enter Tryz.func61, Tryz.ntmps61
  go_wp2_with fail
  go_loopw [2] (fun vi wr => vi = .int .i64 0 ∧ wr = w) (fun vi _ => 0)
  case atStart => exact ⟨rfl, rfl⟩
  case round =>
    obtain ⟨rfl, rfl⟩ := hrel
    go_wp2_with fail
    go_end0
    exact ⟨rfl, Below.refl _ _⟩
set_option maxHeartbeats 1000000 in
theorem growChanges_nil (b : Nat) (cs : Array Value) (w : World) (hb : w.heap[b]? = some (.cells cs 48 (0, 0))) (hc : cs[12]? = some (.slice none 0 0)) :
    Calls Tryz.prog 76 #[.pointer (some ⟨b, 0, none⟩)] w fun e w' => e = .returned (.slice none 0 0) ∧ Below w.heap.size w w' := by
  have hbl := blk_lt hb
  have hcell : w.cell? ⟨b, 12, none⟩ = some (.slice none 0 0) := by rw [blk_cells hb]; exact hc
  clear hb hc
  go_enter Tryz.func76, Tryz.ntmps76
  go_wp2_with fail
  go_loopw [3, 4] (fun vo vi wr => vo = .slice none 0 0 ∧ vi = .int .i64 0 ∧ wr = w) (fun _ vi _ => 0)
  case atStart => exact ⟨rfl, rfl, rfl⟩
  case round =>
    obtain ⟨rfl, rfl, rfl⟩ := hrel
    go_wp2_with fail
    go_ret
    exact ⟨rfl, Below.refl _ _⟩
set_option maxHeartbeats 1000000 in
theorem markedChanges_nil (w : World) :
    Calls Tryz.prog 86 #[.slice none 0 0] w fun e w' => e = .returned (.bool true) ∧ Below w.heap.size w w' := by
  go_enter Tryz.func86, Tryz.ntmps86
  go_wp2_with fail
  go_loopw [3] (fun vi wr => vi = .int .i64 0 ∧ wr = w) (fun vi _ => 0)
  case atStart => exact ⟨rfl, rfl⟩
  case round =>
    obtain ⟨rfl, rfl⟩ := hrel
    go_wp2_with fail
    go_ret
    exact ⟨rfl, Below.refl _ _⟩
set_option maxHeartbeats 1000000 in
theorem stillConflicts_nil (b : Nat) (cs : Array Value) (w : World) (hb : w.heap[b]? = some (.cells cs 48 (0, 0))) (hc : cs[14]? = some (.slice none 0 0)) :
    Calls Tryz.prog 57 #[.pointer (some ⟨b, 0, none⟩)] w fun e w' => e = .returned (.bool true) ∧ Below w.heap.size w w' := by
  have hbl := blk_lt hb
  have hcell : w.cell? ⟨b, 14, none⟩ = some (.slice none 0 0) := by rw [blk_cells hb]; exact hc
  clear hb hc
  go_enter Tryz.func57, Tryz.ntmps57
  go_wp2_with fail
  go_loopw [3] (fun vi wr => vi = .int .i64 0 ∧ wr = w) (fun vi _ => 0)
  case atStart => exact ⟨rfl, rfl⟩
  case round =>
    obtain ⟨rfl, rfl⟩ := hrel
    go_wp2_with fail
    go_ret
    exact ⟨rfl, Below.refl _ _⟩
set_option maxHeartbeats 1000000 in
theorem putConflicts_nil (b : Nat) (cs : Array Value) (w : World) (hb : w.heap[b]? = some (.cells cs 48 (0, 0))) (hc : cs[14]? = some (.slice none 0 0)) :
    Calls Tryz.prog 67 #[.pointer (some ⟨b, 0, none⟩)] w fun e w' => e = .returned (.tuple #[]) ∧ Below w.heap.size w w' := by
  have hbl := blk_lt hb
  have hcell : w.cell? ⟨b, 14, none⟩ = some (.slice none 0 0) := by rw [blk_cells hb]; exact hc
  clear hb hc
  go_enter Tryz.func67, Tryz.ntmps67
  go_wp2_with fail
  go_loopw [2] (fun vi wr => vi = .int .i64 0 ∧ wr = w) (fun vi _ => 0)
  case atStart => exact ⟨rfl, rfl⟩
  case round =>
    obtain ⟨rfl, rfl⟩ := hrel
    go_wp2_with fail
    go_end0
    exact ⟨rfl, Below.refl _ _⟩
set_option maxHeartbeats 1000000 in
theorem growConflicts_nil (b : Nat) (cs : Array Value) (w : World) (hb : w.heap[b]? = some (.cells cs 48 (0, 0))) (hc : cs[14]? = some (.slice none 0 0)) :
    Calls Tryz.prog 77 #[.pointer (some ⟨b, 0, none⟩)] w fun e w' => e = .returned (.slice none 0 0) ∧ Below w.heap.size w w' := by
  have hbl := blk_lt hb
  have hcell : w.cell? ⟨b, 14, none⟩ = some (.slice none 0 0) := by rw [blk_cells hb]; exact hc
  clear hb hc
  go_enter Tryz.func77, Tryz.ntmps77
  go_wp2_with fail
  go_loopw [3, 4] (fun vo vi wr => vo = .slice none 0 0 ∧ vi = .int .i64 0 ∧ wr = w) (fun _ vi _ => 0)
  case atStart => exact ⟨rfl, rfl, rfl⟩
  case round =>
    obtain ⟨rfl, rfl, rfl⟩ := hrel
    go_wp2_with fail
    go_ret
    exact ⟨rfl, Below.refl _ _⟩
set_option maxHeartbeats 1000000 in
theorem markedConflicts_nil (w : World) :
    Calls Tryz.prog 87 #[.slice none 0 0] w fun e w' => e = .returned (.bool true) ∧ Below w.heap.size w w' := by
  go_enter Tryz.func87, Tryz.ntmps87
  go_wp2_with fail
  go_loopw [3] (fun vi wr => vi = .int .i64 0 ∧ wr = w) (fun vi _ => 0)
  case atStart => exact ⟨rfl, rfl⟩
  case round =>
    obtain ⟨rfl, rfl⟩ := hrel
    go_wp2_with fail
    go_ret
    exact ⟨rfl, Below.refl _ _⟩
set_option maxHeartbeats 1000000 in
theorem stillTrios_nil (b : Nat) (cs : Array Value) (w : World) (hb : w.heap[b]? = some (.cells cs 48 (0, 0))) (hc : cs[16]? = some (.slice none 0 0)) :
    Calls Tryz.prog 58 #[.pointer (some ⟨b, 0, none⟩)] w fun e w' => e = .returned (.bool true) ∧ Below w.heap.size w w' := by
  have hbl := blk_lt hb
  have hcell : w.cell? ⟨b, 16, none⟩ = some (.slice none 0 0) := by rw [blk_cells hb]; exact hc
  clear hb hc
  go_enter Tryz.func58, Tryz.ntmps58
  go_wp2_with fail
  go_loopw [3] (fun vi wr => vi = .int .i64 0 ∧ wr = w) (fun vi _ => 0)
  case atStart => exact ⟨rfl, rfl⟩
  case round =>
    obtain ⟨rfl, rfl⟩ := hrel
    go_wp2_with fail
    go_ret
    exact ⟨rfl, Below.refl _ _⟩
set_option maxHeartbeats 1000000 in
theorem putTrios_nil (b : Nat) (cs : Array Value) (w : World) (hb : w.heap[b]? = some (.cells cs 48 (0, 0))) (hc : cs[16]? = some (.slice none 0 0)) :
    Calls Tryz.prog 68 #[.pointer (some ⟨b, 0, none⟩)] w fun e w' => e = .returned (.tuple #[]) ∧ Below w.heap.size w w' := by
  have hbl := blk_lt hb
  have hcell : w.cell? ⟨b, 16, none⟩ = some (.slice none 0 0) := by rw [blk_cells hb]; exact hc
  clear hb hc
  go_enter Tryz.func68, Tryz.ntmps68
  go_wp2_with fail
  go_loopw [2] (fun vi wr => vi = .int .i64 0 ∧ wr = w) (fun vi _ => 0)
  case atStart => exact ⟨rfl, rfl⟩
  case round =>
    obtain ⟨rfl, rfl⟩ := hrel
    go_wp2_with fail
    go_end0
    exact ⟨rfl, Below.refl _ _⟩
set_option maxHeartbeats 1000000 in
theorem growTrios_nil (b : Nat) (cs : Array Value) (w : World) (hb : w.heap[b]? = some (.cells cs 48 (0, 0))) (hc : cs[16]? = some (.slice none 0 0)) :
    Calls Tryz.prog 78 #[.pointer (some ⟨b, 0, none⟩)] w fun e w' => e = .returned (.slice none 0 0) ∧ Below w.heap.size w w' := by
  have hbl := blk_lt hb
  have hcell : w.cell? ⟨b, 16, none⟩ = some (.slice none 0 0) := by rw [blk_cells hb]; exact hc
  clear hb hc
  go_enter Tryz.func78, Tryz.ntmps78
  go_wp2_with fail
  go_loopw [3, 4] (fun vo vi wr => vo = .slice none 0 0 ∧ vi = .int .i64 0 ∧ wr = w) (fun _ vi _ => 0)
  case atStart => exact ⟨rfl, rfl, rfl⟩
  case round =>
    obtain ⟨rfl, rfl, rfl⟩ := hrel
    go_wp2_with fail
    go_ret
    exact ⟨rfl, Below.refl _ _⟩
set_option maxHeartbeats 1000000 in
theorem markedTrios_nil (w : World) :
    Calls Tryz.prog 88 #[.slice none 0 0] w fun e w' => e = .returned (.bool true) ∧ Below w.heap.size w w' := by
  go_enter Tryz.func88, Tryz.ntmps88
  go_wp2_with fail
  go_loopw [3] (fun vi wr => vi = .int .i64 0 ∧ wr = w) (fun vi _ => 0)
  case atStart => exact ⟨rfl, rfl⟩
  case round =>
    obtain ⟨rfl, rfl⟩ := hrel
    go_wp2_with fail
    go_ret
    exact ⟨rfl, Below.refl _ _⟩
set_option maxHeartbeats 1000000 in
theorem stillPairs_nil (b : Nat) (cs : Array Value) (w : World) (hb : w.heap[b]? = some (.cells cs 48 (0, 0))) (hc : cs[18]? = some (.slice none 0 0)) :
    Calls Tryz.prog 59 #[.pointer (some ⟨b, 0, none⟩)] w fun e w' => e = .returned (.bool true) ∧ Below w.heap.size w w' := by
  have hbl := blk_lt hb
  have hcell : w.cell? ⟨b, 18, none⟩ = some (.slice none 0 0) := by rw [blk_cells hb]; exact hc
  clear hb hc
  go_enter Tryz.func59, Tryz.ntmps59
  go_wp2_with fail
  go_loopw [3] (fun vi wr => vi = .int .i64 0 ∧ wr = w) (fun vi _ => 0)
  case atStart => exact ⟨rfl, rfl⟩
  case round =>
    obtain ⟨rfl, rfl⟩ := hrel
    go_wp2_with fail
    go_ret
    exact ⟨rfl, Below.refl _ _⟩
set_option maxHeartbeats 1000000 in
theorem putPairs_nil (b : Nat) (cs : Array Value) (w : World) (hb : w.heap[b]? = some (.cells cs 48 (0, 0))) (hc : cs[18]? = some (.slice none 0 0)) :
    Calls Tryz.prog 69 #[.pointer (some ⟨b, 0, none⟩)] w fun e w' => e = .returned (.tuple #[]) ∧ Below w.heap.size w w' := by
  have hbl := blk_lt hb
  have hcell : w.cell? ⟨b, 18, none⟩ = some (.slice none 0 0) := by rw [blk_cells hb]; exact hc
  clear hb hc
  go_enter Tryz.func69, Tryz.ntmps69
  go_wp2_with fail
  go_loopw [2] (fun vi wr => vi = .int .i64 0 ∧ wr = w) (fun vi _ => 0)
  case atStart => exact ⟨rfl, rfl⟩
  case round =>
    obtain ⟨rfl, rfl⟩ := hrel
    go_wp2_with fail
    go_end0
    exact ⟨rfl, Below.refl _ _⟩
set_option maxHeartbeats 1000000 in
theorem growPairs_nil (b : Nat) (cs : Array Value) (w : World) (hb : w.heap[b]? = some (.cells cs 48 (0, 0))) (hc : cs[18]? = some (.slice none 0 0)) :
    Calls Tryz.prog 79 #[.pointer (some ⟨b, 0, none⟩)] w fun e w' => e = .returned (.slice none 0 0) ∧ Below w.heap.size w w' := by
  have hbl := blk_lt hb
  have hcell : w.cell? ⟨b, 18, none⟩ = some (.slice none 0 0) := by rw [blk_cells hb]; exact hc
  clear hb hc
  go_enter Tryz.func79, Tryz.ntmps79
  go_wp2_with fail
  go_loopw [3, 4] (fun vo vi wr => vo = .slice none 0 0 ∧ vi = .int .i64 0 ∧ wr = w) (fun _ vi _ => 0)
  case atStart => exact ⟨rfl, rfl, rfl⟩
  case round =>
    obtain ⟨rfl, rfl, rfl⟩ := hrel
    go_wp2_with fail
    go_ret
    exact ⟨rfl, Below.refl _ _⟩
set_option maxHeartbeats 1000000 in
theorem markedPairs_nil (w : World) :
    Calls Tryz.prog 89 #[.slice none 0 0] w fun e w' => e = .returned (.bool true) ∧ Below w.heap.size w w' := by
  go_enter Tryz.func89, Tryz.ntmps89
  go_wp2_with fail
  go_loopw [3] (fun vi wr => vi = .int .i64 0 ∧ wr = w) (fun vi _ => 0)
  case atStart => exact ⟨rfl, rfl⟩
  case round =>
    obtain ⟨rfl, rfl⟩ := hrel
    go_wp2_with fail
    go_ret
    exact ⟨rfl, Below.refl _ _⟩
end Go.Proofs.YtfnmlpnncjhnmaaGreat
