/- variorumbook: still, put, grow, marked of the kinds of which nothing is kept. Printed by mknil.py. -/
import Derived.Test.YtacemlbfifhllaaGreatX22GatesPlay
set_option linter.unusedVariables false
set_option linter.unusedSimpArgs false
namespace Go.Proofs.YtacemlbfifhllaaGreat
open Go.RowKit Go.Maps

set_option maxHeartbeats 1000000 in
theorem stillTexts_nil (b : Nat) (cs : Array Value) (w : World) (hb : w.heap[b]? = some (.cells cs 41 (0, 0))) (hc : cs[0]? = some (.slice none 0 0)) :
    Calls Tryz.prog 25 #[.pointer (some ⟨b, 0, none⟩)] w fun e w' => e = .returned (.bool true) ∧ Below w.heap.size w w' := by
  have hbl := blk_lt hb
  have hcell : w.cell? ⟨b, 0, none⟩ = some (.slice none 0 0) := by rw [blk_cells hb]; exact hc
  clear hb hc
  go_enter Tryz.func25, Tryz.ntmps25
  go_wp2_with fail
  go_loopw [3] (fun vi wr => vi = .int .i64 0 ∧ wr = w) (fun vi _ => 0)
  case atStart => exact ⟨rfl, rfl⟩
  case round =>
    obtain ⟨rfl, rfl⟩ := hrel
    go_wp2_with fail
    go_ret
    exact ⟨rfl, Below.refl _ _⟩
set_option maxHeartbeats 1000000 in
theorem putTexts_nil (b : Nat) (cs : Array Value) (w : World) (hb : w.heap[b]? = some (.cells cs 41 (0, 0))) (hc : cs[0]? = some (.slice none 0 0)) :
    Calls Tryz.prog 37 #[.pointer (some ⟨b, 0, none⟩)] w fun e w' => e = .returned (.tuple #[]) ∧ Below w.heap.size w w' := by
  have hbl := blk_lt hb
  have hcell : w.cell? ⟨b, 0, none⟩ = some (.slice none 0 0) := by rw [blk_cells hb]; exact hc
  clear hb hc
  go_enter Tryz.func37, Tryz.ntmps37
  go_wp2_with fail
  go_loopw [2] (fun vi wr => vi = .int .i64 0 ∧ wr = w) (fun vi _ => 0)
  case atStart => exact ⟨rfl, rfl⟩
  case round =>
    obtain ⟨rfl, rfl⟩ := hrel
    go_wp2_with fail
    go_end0
    exact ⟨rfl, Below.refl _ _⟩
set_option maxHeartbeats 1000000 in
theorem growTexts_nil (b : Nat) (cs : Array Value) (w : World) (hb : w.heap[b]? = some (.cells cs 41 (0, 0))) (hc : cs[0]? = some (.slice none 0 0)) :
    Calls Tryz.prog 45 #[.pointer (some ⟨b, 0, none⟩)] w fun e w' => e = .returned (.slice none 0 0) ∧ Below w.heap.size w w' := by
  have hbl := blk_lt hb
  have hcell : w.cell? ⟨b, 0, none⟩ = some (.slice none 0 0) := by rw [blk_cells hb]; exact hc
  clear hb hc
  go_enter Tryz.func45, Tryz.ntmps45
  go_wp2_with fail
  go_loopw [3, 4] (fun vo vi wr => vo = .slice none 0 0 ∧ vi = .int .i64 0 ∧ wr = w) (fun _ vi _ => 0)
  case atStart => exact ⟨rfl, rfl, rfl⟩
  case round =>
    obtain ⟨rfl, rfl, rfl⟩ := hrel
    go_wp2_with fail
    go_ret
    exact ⟨rfl, Below.refl _ _⟩
set_option maxHeartbeats 1000000 in
theorem markedTexts_nil (w : World) :
    Calls Tryz.prog 55 #[.slice none 0 0] w fun e w' => e = .returned (.bool true) ∧ Below w.heap.size w w' := by
  go_enter Tryz.func55, Tryz.ntmps55
  go_wp2_with fail
  go_loopw [3] (fun vi wr => vi = .int .i64 0 ∧ wr = w) (fun vi _ => 0)
  case atStart => exact ⟨rfl, rfl⟩
  case round =>
    obtain ⟨rfl, rfl⟩ := hrel
    go_wp2_with fail
    go_ret
    exact ⟨rfl, Below.refl _ _⟩
set_option maxHeartbeats 1000000 in
theorem stillInts_nil (b : Nat) (cs : Array Value) (w : World) (hb : w.heap[b]? = some (.cells cs 41 (0, 0))) (hc : cs[2]? = some (.slice none 0 0)) :
    Calls Tryz.prog 26 #[.pointer (some ⟨b, 0, none⟩)] w fun e w' => e = .returned (.bool true) ∧ Below w.heap.size w w' := by
  have hbl := blk_lt hb
  have hcell : w.cell? ⟨b, 2, none⟩ = some (.slice none 0 0) := by rw [blk_cells hb]; exact hc
  clear hb hc
  go_enter Tryz.func26, Tryz.ntmps26
  go_wp2_with fail
  go_loopw [3] (fun vi wr => vi = .int .i64 0 ∧ wr = w) (fun vi _ => 0)
  case atStart => exact ⟨rfl, rfl⟩
  case round =>
    obtain ⟨rfl, rfl⟩ := hrel
    go_wp2_with fail
    go_ret
    exact ⟨rfl, Below.refl _ _⟩
set_option maxHeartbeats 1000000 in
theorem putInts_nil (b : Nat) (cs : Array Value) (w : World) (hb : w.heap[b]? = some (.cells cs 41 (0, 0))) (hc : cs[2]? = some (.slice none 0 0)) :
    Calls Tryz.prog 38 #[.pointer (some ⟨b, 0, none⟩)] w fun e w' => e = .returned (.tuple #[]) ∧ Below w.heap.size w w' := by
  have hbl := blk_lt hb
  have hcell : w.cell? ⟨b, 2, none⟩ = some (.slice none 0 0) := by rw [blk_cells hb]; exact hc
  clear hb hc
  go_enter Tryz.func38, Tryz.ntmps38
  go_wp2_with fail
  go_loopw [2] (fun vi wr => vi = .int .i64 0 ∧ wr = w) (fun vi _ => 0)
  case atStart => exact ⟨rfl, rfl⟩
  case round =>
    obtain ⟨rfl, rfl⟩ := hrel
    go_wp2_with fail
    go_end0
    exact ⟨rfl, Below.refl _ _⟩
set_option maxHeartbeats 1000000 in
theorem growInts_nil (b : Nat) (cs : Array Value) (w : World) (hb : w.heap[b]? = some (.cells cs 41 (0, 0))) (hc : cs[2]? = some (.slice none 0 0)) :
    Calls Tryz.prog 46 #[.pointer (some ⟨b, 0, none⟩)] w fun e w' => e = .returned (.slice none 0 0) ∧ Below w.heap.size w w' := by
  have hbl := blk_lt hb
  have hcell : w.cell? ⟨b, 2, none⟩ = some (.slice none 0 0) := by rw [blk_cells hb]; exact hc
  clear hb hc
  go_enter Tryz.func46, Tryz.ntmps46
  go_wp2_with fail
  go_loopw [3, 4] (fun vo vi wr => vo = .slice none 0 0 ∧ vi = .int .i64 0 ∧ wr = w) (fun _ vi _ => 0)
  case atStart => exact ⟨rfl, rfl, rfl⟩
  case round =>
    obtain ⟨rfl, rfl, rfl⟩ := hrel
    go_wp2_with fail
    go_ret
    exact ⟨rfl, Below.refl _ _⟩
set_option maxHeartbeats 1000000 in
theorem markedInts_nil (w : World) :
    Calls Tryz.prog 56 #[.slice none 0 0] w fun e w' => e = .returned (.bool true) ∧ Below w.heap.size w w' := by
  go_enter Tryz.func56, Tryz.ntmps56
  go_wp2_with fail
  go_loopw [3] (fun vi wr => vi = .int .i64 0 ∧ wr = w) (fun vi _ => 0)
  case atStart => exact ⟨rfl, rfl⟩
  case round =>
    obtain ⟨rfl, rfl⟩ := hrel
    go_wp2_with fail
    go_ret
    exact ⟨rfl, Below.refl _ _⟩
set_option maxHeartbeats 1000000 in
theorem stillAccounts_nil (b : Nat) (cs : Array Value) (w : World) (hb : w.heap[b]? = some (.cells cs 41 (0, 0))) (hc : cs[4]? = some (.slice none 0 0)) :
    Calls Tryz.prog 27 #[.pointer (some ⟨b, 0, none⟩)] w fun e w' => e = .returned (.bool true) ∧ Below w.heap.size w w' := by
  have hbl := blk_lt hb
  have hcell : w.cell? ⟨b, 4, none⟩ = some (.slice none 0 0) := by rw [blk_cells hb]; exact hc
  clear hb hc
  go_enter Tryz.func27, Tryz.ntmps27
  go_wp2_with fail
  go_loopw [3] (fun vi wr => vi = .int .i64 0 ∧ wr = w) (fun vi _ => 0)
  case atStart => exact ⟨rfl, rfl⟩
  case round =>
    obtain ⟨rfl, rfl⟩ := hrel
    go_wp2_with fail
    go_ret
    exact ⟨rfl, Below.refl _ _⟩
set_option maxHeartbeats 1000000 in
theorem putAccounts_nil (b : Nat) (cs : Array Value) (w : World) (hb : w.heap[b]? = some (.cells cs 41 (0, 0))) (hc : cs[4]? = some (.slice none 0 0)) :
    Calls Tryz.prog 39 #[.pointer (some ⟨b, 0, none⟩)] w fun e w' => e = .returned (.tuple #[]) ∧ Below w.heap.size w w' := by
  have hbl := blk_lt hb
  have hcell : w.cell? ⟨b, 4, none⟩ = some (.slice none 0 0) := by rw [blk_cells hb]; exact hc
  clear hb hc
  go_enter Tryz.func39, Tryz.ntmps39
  go_wp2_with fail
  go_loopw [2] (fun vi wr => vi = .int .i64 0 ∧ wr = w) (fun vi _ => 0)
  case atStart => exact ⟨rfl, rfl⟩
  case round =>
    obtain ⟨rfl, rfl⟩ := hrel
    go_wp2_with fail
    go_end0
    exact ⟨rfl, Below.refl _ _⟩
set_option maxHeartbeats 1000000 in
theorem growAccounts_nil (b : Nat) (cs : Array Value) (w : World) (hb : w.heap[b]? = some (.cells cs 41 (0, 0))) (hc : cs[4]? = some (.slice none 0 0)) :
    Calls Tryz.prog 47 #[.pointer (some ⟨b, 0, none⟩)] w fun e w' => e = .returned (.slice none 0 0) ∧ Below w.heap.size w w' := by
  have hbl := blk_lt hb
  have hcell : w.cell? ⟨b, 4, none⟩ = some (.slice none 0 0) := by rw [blk_cells hb]; exact hc
  clear hb hc
  go_enter Tryz.func47, Tryz.ntmps47
  go_wp2_with fail
  go_loopw [3, 4] (fun vo vi wr => vo = .slice none 0 0 ∧ vi = .int .i64 0 ∧ wr = w) (fun _ vi _ => 0)
  case atStart => exact ⟨rfl, rfl, rfl⟩
  case round =>
    obtain ⟨rfl, rfl, rfl⟩ := hrel
    go_wp2_with fail
    go_ret
    exact ⟨rfl, Below.refl _ _⟩
set_option maxHeartbeats 1000000 in
theorem markedAccounts_nil (w : World) :
    Calls Tryz.prog 57 #[.slice none 0 0] w fun e w' => e = .returned (.bool true) ∧ Below w.heap.size w w' := by
  go_enter Tryz.func57, Tryz.ntmps57
  go_wp2_with fail
  go_loopw [3] (fun vi wr => vi = .int .i64 0 ∧ wr = w) (fun vi _ => 0)
  case atStart => exact ⟨rfl, rfl⟩
  case round =>
    obtain ⟨rfl, rfl⟩ := hrel
    go_wp2_with fail
    go_ret
    exact ⟨rfl, Below.refl _ _⟩
set_option maxHeartbeats 1000000 in
theorem stillBalances_nil (b : Nat) (cs : Array Value) (w : World) (hb : w.heap[b]? = some (.cells cs 41 (0, 0))) (hc : cs[6]? = some (.slice none 0 0)) :
    Calls Tryz.prog 28 #[.pointer (some ⟨b, 0, none⟩)] w fun e w' => e = .returned (.bool true) ∧ Below w.heap.size w w' := by
  have hbl := blk_lt hb
  have hcell : w.cell? ⟨b, 6, none⟩ = some (.slice none 0 0) := by rw [blk_cells hb]; exact hc
  clear hb hc
  go_enter Tryz.func28, Tryz.ntmps28
  go_wp2_with fail
  go_loopw [3] (fun vi wr => vi = .int .i64 0 ∧ wr = w) (fun vi _ => 0)
  case atStart => exact ⟨rfl, rfl⟩
  case round =>
    obtain ⟨rfl, rfl⟩ := hrel
    go_wp2_with fail
    go_ret
    exact ⟨rfl, Below.refl _ _⟩
set_option maxHeartbeats 1000000 in
theorem putBalances_nil (b : Nat) (cs : Array Value) (w : World) (hb : w.heap[b]? = some (.cells cs 41 (0, 0))) (hc : cs[6]? = some (.slice none 0 0)) :
    Calls Tryz.prog 40 #[.pointer (some ⟨b, 0, none⟩)] w fun e w' => e = .returned (.tuple #[]) ∧ Below w.heap.size w w' := by
  have hbl := blk_lt hb
  have hcell : w.cell? ⟨b, 6, none⟩ = some (.slice none 0 0) := by rw [blk_cells hb]; exact hc
  clear hb hc
  go_enter Tryz.func40, Tryz.ntmps40
  go_wp2_with fail
  go_loopw [2] (fun vi wr => vi = .int .i64 0 ∧ wr = w) (fun vi _ => 0)
  case atStart => exact ⟨rfl, rfl⟩
  case round =>
    obtain ⟨rfl, rfl⟩ := hrel
    go_wp2_with fail
    go_end0
    exact ⟨rfl, Below.refl _ _⟩
set_option maxHeartbeats 1000000 in
theorem growBalances_nil (b : Nat) (cs : Array Value) (w : World) (hb : w.heap[b]? = some (.cells cs 41 (0, 0))) (hc : cs[6]? = some (.slice none 0 0)) :
    Calls Tryz.prog 48 #[.pointer (some ⟨b, 0, none⟩)] w fun e w' => e = .returned (.slice none 0 0) ∧ Below w.heap.size w w' := by
  have hbl := blk_lt hb
  have hcell : w.cell? ⟨b, 6, none⟩ = some (.slice none 0 0) := by rw [blk_cells hb]; exact hc
  clear hb hc
  go_enter Tryz.func48, Tryz.ntmps48
  go_wp2_with fail
  go_loopw [3, 4] (fun vo vi wr => vo = .slice none 0 0 ∧ vi = .int .i64 0 ∧ wr = w) (fun _ vi _ => 0)
  case atStart => exact ⟨rfl, rfl, rfl⟩
  case round =>
    obtain ⟨rfl, rfl, rfl⟩ := hrel
    go_wp2_with fail
    go_ret
    exact ⟨rfl, Below.refl _ _⟩
set_option maxHeartbeats 1000000 in
theorem markedBalances_nil (w : World) :
    Calls Tryz.prog 58 #[.slice none 0 0] w fun e w' => e = .returned (.bool true) ∧ Below w.heap.size w w' := by
  go_enter Tryz.func58, Tryz.ntmps58
  go_wp2_with fail
  go_loopw [3] (fun vi wr => vi = .int .i64 0 ∧ wr = w) (fun vi _ => 0)
  case atStart => exact ⟨rfl, rfl⟩
  case round =>
    obtain ⟨rfl, rfl⟩ := hrel
    go_wp2_with fail
    go_ret
    exact ⟨rfl, Below.refl _ _⟩
set_option maxHeartbeats 1000000 in
theorem stillLines_nil (b : Nat) (cs : Array Value) (w : World) (hb : w.heap[b]? = some (.cells cs 41 (0, 0))) (hc : cs[8]? = some (.slice none 0 0)) :
    Calls Tryz.prog 29 #[.pointer (some ⟨b, 0, none⟩)] w fun e w' => e = .returned (.bool true) ∧ Below w.heap.size w w' := by
  have hbl := blk_lt hb
  have hcell : w.cell? ⟨b, 8, none⟩ = some (.slice none 0 0) := by rw [blk_cells hb]; exact hc
  clear hb hc
  go_enter Tryz.func29, Tryz.ntmps29
  go_wp2_with fail
  go_loopw [3] (fun vi wr => vi = .int .i64 0 ∧ wr = w) (fun vi _ => 0)
  case atStart => exact ⟨rfl, rfl⟩
  case round =>
    obtain ⟨rfl, rfl⟩ := hrel
    go_wp2_with fail
    go_ret
    exact ⟨rfl, Below.refl _ _⟩
set_option maxHeartbeats 1000000 in
theorem putLines_nil (b : Nat) (cs : Array Value) (w : World) (hb : w.heap[b]? = some (.cells cs 41 (0, 0))) (hc : cs[8]? = some (.slice none 0 0)) :
    Calls Tryz.prog 41 #[.pointer (some ⟨b, 0, none⟩)] w fun e w' => e = .returned (.tuple #[]) ∧ Below w.heap.size w w' := by
  have hbl := blk_lt hb
  have hcell : w.cell? ⟨b, 8, none⟩ = some (.slice none 0 0) := by rw [blk_cells hb]; exact hc
  clear hb hc
  go_enter Tryz.func41, Tryz.ntmps41
  go_wp2_with fail
  go_loopw [2] (fun vi wr => vi = .int .i64 0 ∧ wr = w) (fun vi _ => 0)
  case atStart => exact ⟨rfl, rfl⟩
  case round =>
    obtain ⟨rfl, rfl⟩ := hrel
    go_wp2_with fail
    go_end0
    exact ⟨rfl, Below.refl _ _⟩
set_option maxHeartbeats 1000000 in
theorem growLines_nil (b : Nat) (cs : Array Value) (w : World) (hb : w.heap[b]? = some (.cells cs 41 (0, 0))) (hc : cs[8]? = some (.slice none 0 0)) :
    Calls Tryz.prog 49 #[.pointer (some ⟨b, 0, none⟩)] w fun e w' => e = .returned (.slice none 0 0) ∧ Below w.heap.size w w' := by
  have hbl := blk_lt hb
  have hcell : w.cell? ⟨b, 8, none⟩ = some (.slice none 0 0) := by rw [blk_cells hb]; exact hc
  clear hb hc
  go_enter Tryz.func49, Tryz.ntmps49
  go_wp2_with fail
  go_loopw [3, 4] (fun vo vi wr => vo = .slice none 0 0 ∧ vi = .int .i64 0 ∧ wr = w) (fun _ vi _ => 0)
  case atStart => exact ⟨rfl, rfl, rfl⟩
  case round =>
    obtain ⟨rfl, rfl, rfl⟩ := hrel
    go_wp2_with fail
    go_ret
    exact ⟨rfl, Below.refl _ _⟩
set_option maxHeartbeats 1000000 in
theorem markedLines_nil (w : World) :
    Calls Tryz.prog 59 #[.slice none 0 0] w fun e w' => e = .returned (.bool true) ∧ Below w.heap.size w w' := by
  go_enter Tryz.func59, Tryz.ntmps59
  go_wp2_with fail
  go_loopw [3] (fun vi wr => vi = .int .i64 0 ∧ wr = w) (fun vi _ => 0)
  case atStart => exact ⟨rfl, rfl⟩
  case round =>
    obtain ⟨rfl, rfl⟩ := hrel
    go_wp2_with fail
    go_ret
    exact ⟨rfl, Below.refl _ _⟩
set_option maxHeartbeats 1000000 in
theorem stillJournals_nil (b : Nat) (cs : Array Value) (w : World) (hb : w.heap[b]? = some (.cells cs 41 (0, 0))) (hc : cs[10]? = some (.slice none 0 0)) :
    Calls Tryz.prog 30 #[.pointer (some ⟨b, 0, none⟩)] w fun e w' => e = .returned (.bool true) ∧ Below w.heap.size w w' := by
  have hbl := blk_lt hb
  have hcell : w.cell? ⟨b, 10, none⟩ = some (.slice none 0 0) := by rw [blk_cells hb]; exact hc
  clear hb hc
  go_enter Tryz.func30, Tryz.ntmps30
  go_wp2_with fail
  go_loopw [3] (fun vi wr => vi = .int .i64 0 ∧ wr = w) (fun vi _ => 0)
  case atStart => exact ⟨rfl, rfl⟩
  case round =>
    obtain ⟨rfl, rfl⟩ := hrel
    go_wp2_with fail
    go_ret
    exact ⟨rfl, Below.refl _ _⟩
set_option maxHeartbeats 1000000 in
theorem putJournals_nil (b : Nat) (cs : Array Value) (w : World) (hb : w.heap[b]? = some (.cells cs 41 (0, 0))) (hc : cs[10]? = some (.slice none 0 0)) :
    Calls Tryz.prog 35 #[.pointer (some ⟨b, 0, none⟩)] w fun e w' => e = .returned (.tuple #[]) ∧ Below w.heap.size w w' := by
  have hbl := blk_lt hb
  have hcell : w.cell? ⟨b, 10, none⟩ = some (.slice none 0 0) := by rw [blk_cells hb]; exact hc
  clear hb hc
  go_enter Tryz.func35, Tryz.ntmps35
  go_wp2_with fail
  go_loopw [2] (fun vi wr => vi = .int .i64 0 ∧ wr = w) (fun vi _ => 0)
  case atStart => exact ⟨rfl, rfl⟩
  case round =>
    obtain ⟨rfl, rfl⟩ := hrel
    go_wp2_with fail
    go_end0
    exact ⟨rfl, Below.refl _ _⟩
set_option maxHeartbeats 1000000 in
theorem growJournals_nil (b : Nat) (cs : Array Value) (w : World) (hb : w.heap[b]? = some (.cells cs 41 (0, 0))) (hc : cs[10]? = some (.slice none 0 0)) :
    Calls Tryz.prog 50 #[.pointer (some ⟨b, 0, none⟩)] w fun e w' => e = .returned (.slice none 0 0) ∧ Below w.heap.size w w' := by
  have hbl := blk_lt hb
  have hcell : w.cell? ⟨b, 10, none⟩ = some (.slice none 0 0) := by rw [blk_cells hb]; exact hc
  clear hb hc
  go_enter Tryz.func50, Tryz.ntmps50
  go_wp2_with fail
  go_loopw [3, 4] (fun vo vi wr => vo = .slice none 0 0 ∧ vi = .int .i64 0 ∧ wr = w) (fun _ vi _ => 0)
  case atStart => exact ⟨rfl, rfl, rfl⟩
  case round =>
    obtain ⟨rfl, rfl, rfl⟩ := hrel
    go_wp2_with fail
    go_ret
    exact ⟨rfl, Below.refl _ _⟩
set_option maxHeartbeats 1000000 in
theorem markedJournals_nil (w : World) :
    Calls Tryz.prog 60 #[.slice none 0 0] w fun e w' => e = .returned (.bool true) ∧ Below w.heap.size w w' := by
  go_enter Tryz.func60, Tryz.ntmps60
  go_wp2_with fail
  go_loopw [3] (fun vi wr => vi = .int .i64 0 ∧ wr = w) (fun vi _ => 0)
  case atStart => exact ⟨rfl, rfl⟩
  case round =>
    obtain ⟨rfl, rfl⟩ := hrel
    go_wp2_with fail
    go_ret
    exact ⟨rfl, Below.refl _ _⟩
set_option maxHeartbeats 1000000 in
theorem stillChanges_nil (b : Nat) (cs : Array Value) (w : World) (hb : w.heap[b]? = some (.cells cs 41 (0, 0))) (hc : cs[12]? = some (.slice none 0 0)) :
    Calls Tryz.prog 31 #[.pointer (some ⟨b, 0, none⟩)] w fun e w' => e = .returned (.bool true) ∧ Below w.heap.size w w' := by
  have hbl := blk_lt hb
  have hcell : w.cell? ⟨b, 12, none⟩ = some (.slice none 0 0) := by rw [blk_cells hb]; exact hc
  clear hb hc
  go_enter Tryz.func31, Tryz.ntmps31
  go_wp2_with fail
  go_loopw [3] (fun vi wr => vi = .int .i64 0 ∧ wr = w) (fun vi _ => 0)
  case atStart => exact ⟨rfl, rfl⟩
  case round =>
    obtain ⟨rfl, rfl⟩ := hrel
    go_wp2_with fail
    go_ret
    exact ⟨rfl, Below.refl _ _⟩
set_option maxHeartbeats 1000000 in
theorem putChanges_nil (b : Nat) (cs : Array Value) (w : World) (hb : w.heap[b]? = some (.cells cs 41 (0, 0))) (hc : cs[12]? = some (.slice none 0 0)) :
    Calls Tryz.prog 36 #[.pointer (some ⟨b, 0, none⟩)] w fun e w' => e = .returned (.tuple #[]) ∧ Below w.heap.size w w' := by
  have hbl := blk_lt hb
  have hcell : w.cell? ⟨b, 12, none⟩ = some (.slice none 0 0) := by rw [blk_cells hb]; exact hc
  clear hb hc
  go_enter Tryz.func36, Tryz.ntmps36
  go_wp2_with fail
  go_loopw [2] (fun vi wr => vi = .int .i64 0 ∧ wr = w) (fun vi _ => 0)
  case atStart => exact ⟨rfl, rfl⟩
  case round =>
    obtain ⟨rfl, rfl⟩ := hrel
    go_wp2_with fail
    go_end0
    exact ⟨rfl, Below.refl _ _⟩
set_option maxHeartbeats 1000000 in
theorem growChanges_nil (b : Nat) (cs : Array Value) (w : World) (hb : w.heap[b]? = some (.cells cs 41 (0, 0))) (hc : cs[12]? = some (.slice none 0 0)) :
    Calls Tryz.prog 51 #[.pointer (some ⟨b, 0, none⟩)] w fun e w' => e = .returned (.slice none 0 0) ∧ Below w.heap.size w w' := by
  have hbl := blk_lt hb
  have hcell : w.cell? ⟨b, 12, none⟩ = some (.slice none 0 0) := by rw [blk_cells hb]; exact hc
  clear hb hc
  go_enter Tryz.func51, Tryz.ntmps51
  go_wp2_with fail
  go_loopw [3, 4] (fun vo vi wr => vo = .slice none 0 0 ∧ vi = .int .i64 0 ∧ wr = w) (fun _ vi _ => 0)
  case atStart => exact ⟨rfl, rfl, rfl⟩
  case round =>
    obtain ⟨rfl, rfl, rfl⟩ := hrel
    go_wp2_with fail
    go_ret
    exact ⟨rfl, Below.refl _ _⟩
set_option maxHeartbeats 1000000 in
theorem markedChanges_nil (w : World) :
    Calls Tryz.prog 61 #[.slice none 0 0] w fun e w' => e = .returned (.bool true) ∧ Below w.heap.size w w' := by
  go_enter Tryz.func61, Tryz.ntmps61
  go_wp2_with fail
  go_loopw [3] (fun vi wr => vi = .int .i64 0 ∧ wr = w) (fun vi _ => 0)
  case atStart => exact ⟨rfl, rfl⟩
  case round =>
    obtain ⟨rfl, rfl⟩ := hrel
    go_wp2_with fail
    go_ret
    exact ⟨rfl, Below.refl _ _⟩
set_option maxHeartbeats 1000000 in
theorem stillConflicts_nil (b : Nat) (cs : Array Value) (w : World) (hb : w.heap[b]? = some (.cells cs 41 (0, 0))) (hc : cs[14]? = some (.slice none 0 0)) :
    Calls Tryz.prog 32 #[.pointer (some ⟨b, 0, none⟩)] w fun e w' => e = .returned (.bool true) ∧ Below w.heap.size w w' := by
  have hbl := blk_lt hb
  have hcell : w.cell? ⟨b, 14, none⟩ = some (.slice none 0 0) := by rw [blk_cells hb]; exact hc
  clear hb hc
  go_enter Tryz.func32, Tryz.ntmps32
  go_wp2_with fail
  go_loopw [3] (fun vi wr => vi = .int .i64 0 ∧ wr = w) (fun vi _ => 0)
  case atStart => exact ⟨rfl, rfl⟩
  case round =>
    obtain ⟨rfl, rfl⟩ := hrel
    go_wp2_with fail
    go_ret
    exact ⟨rfl, Below.refl _ _⟩
set_option maxHeartbeats 1000000 in
theorem putConflicts_nil (b : Nat) (cs : Array Value) (w : World) (hb : w.heap[b]? = some (.cells cs 41 (0, 0))) (hc : cs[14]? = some (.slice none 0 0)) :
    Calls Tryz.prog 42 #[.pointer (some ⟨b, 0, none⟩)] w fun e w' => e = .returned (.tuple #[]) ∧ Below w.heap.size w w' := by
  have hbl := blk_lt hb
  have hcell : w.cell? ⟨b, 14, none⟩ = some (.slice none 0 0) := by rw [blk_cells hb]; exact hc
  clear hb hc
  go_enter Tryz.func42, Tryz.ntmps42
  go_wp2_with fail
  go_loopw [2] (fun vi wr => vi = .int .i64 0 ∧ wr = w) (fun vi _ => 0)
  case atStart => exact ⟨rfl, rfl⟩
  case round =>
    obtain ⟨rfl, rfl⟩ := hrel
    go_wp2_with fail
    go_end0
    exact ⟨rfl, Below.refl _ _⟩
set_option maxHeartbeats 1000000 in
theorem growConflicts_nil (b : Nat) (cs : Array Value) (w : World) (hb : w.heap[b]? = some (.cells cs 41 (0, 0))) (hc : cs[14]? = some (.slice none 0 0)) :
    Calls Tryz.prog 52 #[.pointer (some ⟨b, 0, none⟩)] w fun e w' => e = .returned (.slice none 0 0) ∧ Below w.heap.size w w' := by
  have hbl := blk_lt hb
  have hcell : w.cell? ⟨b, 14, none⟩ = some (.slice none 0 0) := by rw [blk_cells hb]; exact hc
  clear hb hc
  go_enter Tryz.func52, Tryz.ntmps52
  go_wp2_with fail
  go_loopw [3, 4] (fun vo vi wr => vo = .slice none 0 0 ∧ vi = .int .i64 0 ∧ wr = w) (fun _ vi _ => 0)
  case atStart => exact ⟨rfl, rfl, rfl⟩
  case round =>
    obtain ⟨rfl, rfl, rfl⟩ := hrel
    go_wp2_with fail
    go_ret
    exact ⟨rfl, Below.refl _ _⟩
set_option maxHeartbeats 1000000 in
theorem markedConflicts_nil (w : World) :
    Calls Tryz.prog 62 #[.slice none 0 0] w fun e w' => e = .returned (.bool true) ∧ Below w.heap.size w w' := by
  go_enter Tryz.func62, Tryz.ntmps62
  go_wp2_with fail
  go_loopw [3] (fun vi wr => vi = .int .i64 0 ∧ wr = w) (fun vi _ => 0)
  case atStart => exact ⟨rfl, rfl⟩
  case round =>
    obtain ⟨rfl, rfl⟩ := hrel
    go_wp2_with fail
    go_ret
    exact ⟨rfl, Below.refl _ _⟩
set_option maxHeartbeats 1000000 in
theorem stillTrios_nil (b : Nat) (cs : Array Value) (w : World) (hb : w.heap[b]? = some (.cells cs 41 (0, 0))) (hc : cs[16]? = some (.slice none 0 0)) :
    Calls Tryz.prog 33 #[.pointer (some ⟨b, 0, none⟩)] w fun e w' => e = .returned (.bool true) ∧ Below w.heap.size w w' := by
  have hbl := blk_lt hb
  have hcell : w.cell? ⟨b, 16, none⟩ = some (.slice none 0 0) := by rw [blk_cells hb]; exact hc
  clear hb hc
  go_enter Tryz.func33, Tryz.ntmps33
  go_wp2_with fail
  go_loopw [3] (fun vi wr => vi = .int .i64 0 ∧ wr = w) (fun vi _ => 0)
  case atStart => exact ⟨rfl, rfl⟩
  case round =>
    obtain ⟨rfl, rfl⟩ := hrel
    go_wp2_with fail
    go_ret
    exact ⟨rfl, Below.refl _ _⟩
set_option maxHeartbeats 1000000 in
theorem putTrios_nil (b : Nat) (cs : Array Value) (w : World) (hb : w.heap[b]? = some (.cells cs 41 (0, 0))) (hc : cs[16]? = some (.slice none 0 0)) :
    Calls Tryz.prog 43 #[.pointer (some ⟨b, 0, none⟩)] w fun e w' => e = .returned (.tuple #[]) ∧ Below w.heap.size w w' := by
  have hbl := blk_lt hb
  have hcell : w.cell? ⟨b, 16, none⟩ = some (.slice none 0 0) := by rw [blk_cells hb]; exact hc
  clear hb hc
  go_enter Tryz.func43, Tryz.ntmps43
  go_wp2_with fail
  go_loopw [2] (fun vi wr => vi = .int .i64 0 ∧ wr = w) (fun vi _ => 0)
  case atStart => exact ⟨rfl, rfl⟩
  case round =>
    obtain ⟨rfl, rfl⟩ := hrel
    go_wp2_with fail
    go_end0
    exact ⟨rfl, Below.refl _ _⟩
set_option maxHeartbeats 1000000 in
theorem growTrios_nil (b : Nat) (cs : Array Value) (w : World) (hb : w.heap[b]? = some (.cells cs 41 (0, 0))) (hc : cs[16]? = some (.slice none 0 0)) :
    Calls Tryz.prog 53 #[.pointer (some ⟨b, 0, none⟩)] w fun e w' => e = .returned (.slice none 0 0) ∧ Below w.heap.size w w' := by
  have hbl := blk_lt hb
  have hcell : w.cell? ⟨b, 16, none⟩ = some (.slice none 0 0) := by rw [blk_cells hb]; exact hc
  clear hb hc
  go_enter Tryz.func53, Tryz.ntmps53
  go_wp2_with fail
  go_loopw [3, 4] (fun vo vi wr => vo = .slice none 0 0 ∧ vi = .int .i64 0 ∧ wr = w) (fun _ vi _ => 0)
  case atStart => exact ⟨rfl, rfl, rfl⟩
  case round =>
    obtain ⟨rfl, rfl, rfl⟩ := hrel
    go_wp2_with fail
    go_ret
    exact ⟨rfl, Below.refl _ _⟩
set_option maxHeartbeats 1000000 in
theorem markedTrios_nil (w : World) :
    Calls Tryz.prog 63 #[.slice none 0 0] w fun e w' => e = .returned (.bool true) ∧ Below w.heap.size w w' := by
  go_enter Tryz.func63, Tryz.ntmps63
  go_wp2_with fail
  go_loopw [3] (fun vi wr => vi = .int .i64 0 ∧ wr = w) (fun vi _ => 0)
  case atStart => exact ⟨rfl, rfl⟩
  case round =>
    obtain ⟨rfl, rfl⟩ := hrel
    go_wp2_with fail
    go_ret
    exact ⟨rfl, Below.refl _ _⟩
set_option maxHeartbeats 1000000 in
theorem stillPairs_nil (b : Nat) (cs : Array Value) (w : World) (hb : w.heap[b]? = some (.cells cs 41 (0, 0))) (hc : cs[18]? = some (.slice none 0 0)) :
    Calls Tryz.prog 34 #[.pointer (some ⟨b, 0, none⟩)] w fun e w' => e = .returned (.bool true) ∧ Below w.heap.size w w' := by
  have hbl := blk_lt hb
  have hcell : w.cell? ⟨b, 18, none⟩ = some (.slice none 0 0) := by rw [blk_cells hb]; exact hc
  clear hb hc
  go_enter Tryz.func34, Tryz.ntmps34
  go_wp2_with fail
  go_loopw [3] (fun vi wr => vi = .int .i64 0 ∧ wr = w) (fun vi _ => 0)
  case atStart => exact ⟨rfl, rfl⟩
  case round =>
    obtain ⟨rfl, rfl⟩ := hrel
    go_wp2_with fail
    go_ret
    exact ⟨rfl, Below.refl _ _⟩
set_option maxHeartbeats 1000000 in
theorem putPairs_nil (b : Nat) (cs : Array Value) (w : World) (hb : w.heap[b]? = some (.cells cs 41 (0, 0))) (hc : cs[18]? = some (.slice none 0 0)) :
    Calls Tryz.prog 44 #[.pointer (some ⟨b, 0, none⟩)] w fun e w' => e = .returned (.tuple #[]) ∧ Below w.heap.size w w' := by
  have hbl := blk_lt hb
  have hcell : w.cell? ⟨b, 18, none⟩ = some (.slice none 0 0) := by rw [blk_cells hb]; exact hc
  clear hb hc
  go_enter Tryz.func44, Tryz.ntmps44
  go_wp2_with fail
  go_loopw [2] (fun vi wr => vi = .int .i64 0 ∧ wr = w) (fun vi _ => 0)
  case atStart => exact ⟨rfl, rfl⟩
  case round =>
    obtain ⟨rfl, rfl⟩ := hrel
    go_wp2_with fail
    go_end0
    exact ⟨rfl, Below.refl _ _⟩
set_option maxHeartbeats 1000000 in
theorem growPairs_nil (b : Nat) (cs : Array Value) (w : World) (hb : w.heap[b]? = some (.cells cs 41 (0, 0))) (hc : cs[18]? = some (.slice none 0 0)) :
    Calls Tryz.prog 54 #[.pointer (some ⟨b, 0, none⟩)] w fun e w' => e = .returned (.slice none 0 0) ∧ Below w.heap.size w w' := by
  have hbl := blk_lt hb
  have hcell : w.cell? ⟨b, 18, none⟩ = some (.slice none 0 0) := by rw [blk_cells hb]; exact hc
  clear hb hc
  go_enter Tryz.func54, Tryz.ntmps54
  go_wp2_with fail
  go_loopw [3, 4] (fun vo vi wr => vo = .slice none 0 0 ∧ vi = .int .i64 0 ∧ wr = w) (fun _ vi _ => 0)
  case atStart => exact ⟨rfl, rfl, rfl⟩
  case round =>
    obtain ⟨rfl, rfl, rfl⟩ := hrel
    go_wp2_with fail
    go_ret
    exact ⟨rfl, Below.refl _ _⟩
set_option maxHeartbeats 1000000 in
theorem markedPairs_nil (w : World) :
    Calls Tryz.prog 64 #[.slice none 0 0] w fun e w' => e = .returned (.bool true) ∧ Below w.heap.size w w' := by
  go_enter Tryz.func64, Tryz.ntmps64
  go_wp2_with fail
  go_loopw [3] (fun vi wr => vi = .int .i64 0 ∧ wr = w) (fun vi _ => 0)
  case atStart => exact ⟨rfl, rfl⟩
  case round =>
    obtain ⟨rfl, rfl⟩ := hrel
    go_wp2_with fail
    go_ret
    exact ⟨rfl, Below.refl _ _⟩
end Go.Proofs.YtacemlbfifhllaaGreat
