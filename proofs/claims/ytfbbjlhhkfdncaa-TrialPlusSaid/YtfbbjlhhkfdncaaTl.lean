/- law 10: Set without accounts. -/
import Derived.Test.YtfbbjlhhkfdncaaPl
import Derived.Test.YtfbbjlhhkfdncaaPd
set_option linter.unusedVariables false
set_option linter.unusedSimpArgs false
namespace Go.Proofs.Ytfbbjlhhkfdncaa
open Go.RowKit Go.Maps

set_option maxHeartbeats 2000000 in
theorem chNew0 (w : World) : Calls Try.prog 89 #[.slice none 0 0] w fun e w' => e = .returned (.tuple #[.pointer (some ⟨w.heap.size, 0, none⟩), .int .i64 0]) ∧ w' = w.alloc (.cells #[.map none] 154) := by
  go_enter Try.func89, Try.ntmps89
  go_wp2_with fail
  go_loopw [12] (fun vi wr => vi = .int .i64 0 ∧ wr = w.alloc (.cells #[.map none] 154)) (fun _ _ => 0)
  case atStart => exact ⟨rfl, rfl⟩
  case round =>
    obtain ⟨rfl, rfl⟩ := hrel
    go_wp2_with fail
    go_ret2
    exact ⟨rfl, rfl⟩
set_option maxHeartbeats 2000000 in
theorem l3Make0 (w : World) : Calls Try.prog 52 #[.slice none 0 0] w fun e w' => e = .returned (.pointer (some ⟨w.heap.size, 0, none⟩)) ∧ w' = w.alloc (.cells #[.map none] 154) := by
  go_enter Try.func52, Try.ntmps52
  go_wp2_with fail
  refine (chNew0 w).mono ?_
  rintro en w' ⟨rfl, rfl⟩
  go_wp2_with fail
  go_ret
  exact ⟨rfl, rfl⟩

def Set0Post (w : World) (l : List Jn) (e : Ending) (w' : World) : Prop :=
  ∃ (c g : Nat) (ga fa : Option Addr) (gc fc : Nat), e = .returned (.tuple #[.pointer (some ⟨c, 0, none⟩), .pointer (some ⟨g, 0, none⟩), .slice none 0 0, .slice fa l.length fc, .bool true]) ∧ BookAt w' g ga gc l (fun k => w.heap.size ≤ k) ∧ Sl tJn w' (fun _ => True) fa l ∧ w'.heap[c]? = some (.cells #[.map none] 154 (0, 0)) ∧ Below w.heap.size w w'

set_option maxHeartbeats 8000000 in
set_option maxRecDepth 100000 in
theorem set0_any (l : List Jn) (a : Option Addr) (cap : Nat) (w : World) {F : Nat → Prop} (hs : Sl tJn w F a l) (hl : l.length ≤ maxLen) :
    Calls Try.prog 23 #[.slice none 0 0, .slice a l.length cap] w (Set0Post w (fitJ 40 l)) := by
  have HC := Lib.hid (fit_any l a cap 40 w hs hl (by omega))
  have HV := Lib.hid (fit_val 40 l)
  have hlen : (fitJ 40 l).length ≤ 200 := HV.out.len
  generalize fitJ 40 l = all at *
  clear hs hl
  go_enter Try.func23, Try.ntmps23
  go_wp2_with fail
  go_loopw [9, 10] (fun vo vi wr => vo = .slice none 0 0 ∧ vi = .int .i64 0 ∧ wr = w) (fun _ _ _ => 0)
  case atStart => exact ⟨rfl, rfl, rfl⟩
  case round =>
    obtain ⟨rfl, rfl, rfl⟩ := hrel
    go_wp2_with fail
    refine HC.out.mono ?_
    rintro en w1 ⟨v, rfl, ho, hb⟩
    have HB := Lib.hid hb
    obtain ⟨fa, fc, rfl, _, _, hsl⟩ := ho.slice
    have HA := Lib.hid hsl
    clear ho hb hsl HC
    go_wp2_with fail
    refine (l3Make0 w1).mono ?_
    rintro en w2 ⟨rfl, rfl⟩
    have HB2 := Lib.hid (HB.out.alloc HB.out.size (.cells #[.map none] 154))
    have HZ := Lib.hid (blk_new w1 (.cells #[.map none] 154))
    have HA2 := Lib.hid (Sl.keep (fun k hk _ => Below.heap_alloc w1 (.cells #[.map none] 154) k hk) HA.out)
    go_wp2_with fail
    refine (lof_yes all fa fc _ HA2.out (by omega) HV.out.incJ HV.out.of).mono ?_
    rintro en w3 ⟨g, ga, gc, rfl, hg, hat, hb⟩
    have HB3 := Lib.hid (belows_then HB2.out HB2.out.size hb)
    have HA3 := Lib.hid (Sl.keep (fun k hk _ => hb.block k hk) HA2.out)
    have HZ3 := Lib.hid (blk_below HZ.out hb)
    have HAT := Lib.hid hat
    have HG := Lib.hid hg
    clear hb hat hg
    go_wp2_with fail
    refine bodyPost_ret (v := .tuple #[.pointer (some ⟨w1.heap.size, 0, none⟩), .pointer (some ⟨g, 0, none⟩), .slice none 0 0, .slice fa all.length fc, .bool true]) (by simp [results, Try.results23, go_sem]) rfl ?_
    refine ⟨w1.heap.size, g, ga, fa, gc, fc, rfl, ⟨HAT.out.cell, Sl.mono (fun k _ hk => ?_) HAT.out.sl, HAT.out.len, HAT.out.cap⟩, Sl.mono (fun _ _ _ => trivial) HA3.out, HZ3.out, HB3.out⟩
    have h1 : (w1.alloc (.cells #[.map none] 154)).heap.size ≤ k := hk
    have h2 := HB2.out.size
    omega
end Go.Proofs.Ytfbbjlhhkfdncaa
