/- income: balances with their signs turned, sums, what is left. -/
import Derived.Test.YtacemlbfifhllaaGreatX17GatesPlay
import Derived.Test.YtacemlbfifhllaaGreatX19GatesPlay
import Derived.Test.YtacemlbfifhllaaGreatX21GatesPlay
import Derived.Test.YtacemlbfifhllaaGreatX22GatesPlay
set_option linter.unusedVariables false
set_option linter.unusedSimpArgs false
namespace Go.Proofs.YtacemlbfifhllaaGreat
open Go.RowKit Go.Maps Go.Deep

def negB (x : Int × Int) : Int × Int := (x.1, -x.2)
theorem i64_ofB {n : Int} (h1 : -9223372036854775808 ≤ n) (h2 : n ≤ 9223372036854775807) : I64 n := by
  unfold I64 Lit.wf
  simp [IntKind.min, IntKind.max, IntKind.bits, IntKind.signed]
  omega
theorem wrap_is {n : Int} (h1 : -9223372036854775808 ≤ n) (h2 : n ≤ 9223372036854775807) : IntKind.i64.wrap n = n := by
  simp only [IntKind.wrap, IntKind.bits, IntKind.signed, Int.reducePow]
  simp
  split <;> omega

end Go.Proofs.YtacemlbfifhllaaGreat


/- variorumbook: marks of balances; marked. -/
set_option linter.unusedVariables false
set_option linter.unusedSimpArgs false
namespace Go.Proofs.YtacemlbfifhllaaGreat
open Go.RowKit Go.Maps Go.Deep

/-- the marks of list i, from one place on -/
def marks (i f n : Nat) : List (Int × Int) := (List.range n).map (fun (k : Nat) => ((-1000 * (i : Int) - ((f : Int) + (k : Int)) - 1 : Int), (0 : Int)))
theorem marks_len (i f n : Nat) : (marks i f n).length = n := by unfold marks; rw [List.length_map, List.length_range]
theorem marks_succ (i f n : Nat) : marks i f (n + 1) = marks i f n ++ [(-1000 * (i : Int) - ((f : Int) + (n : Int)) - 1, 0)] := by
  unfold marks
  rw [List.range_succ, List.map_append]
  rfl
theorem marks_app (i n : Nat) : ∀ m, marks i 0 n ++ marks i n m = marks i 0 (n + m)
  | 0 => by simp [marks]
  | m + 1 => by
    rw [marks_succ, ← List.append_assoc, marks_app i n m, ← Nat.add_assoc, marks_succ]
    congr 4
    omega

set_option maxHeartbeats 8000000 in
set_option maxRecDepth 100000 in
theorem markBal_any (i f n : Nat) (hi : i ≤ 1000) (hf : f ≤ 200000) (hn : n ≤ 200000) (w : World) :
    Calls Tryz.prog 85 #[.int .i64 (i : Int), .int .i64 (f : Int), .int .i64 (n : Int)] w fun e w' => ∃ v, e = .returned v ∧ OwnL tBal w' w.heap.size v (marks i f n) ∧ Below w.heap.size w w' := by
  obtain ⟨i0, hi0, hz0, hz1, hz2⟩ := info_parts infoBal
  have w1 : IntKind.i64.wrap (-1000 * (i : Int)) = -1000 * (i : Int) := wrap_is (by omega) (by omega)
  have w0 : IntKind.i64.wrap ((f : Int) + (n : Int)) = (f : Int) + (n : Int) := wrap_is (by omega) (by omega)
  go_enter Tryz.func85, Tryz.ntmps85
  go_wp2_with fail
  go_loopw [7, 8] (fun vo vi wr => ∃ (m : Nat) (k : Int) (vx : Value), vx = vo ∧ m ≤ n ∧ vi = .int .i64 k ∧ k = (f : Int) + (m : Int) ∧ OwnL tBal wr w.heap.size vx (marks i f m) ∧ Below w.heap.size w wr) (fun _ vi _ => f + n - (Go.RowKit.intOf vi).toNat)
  case atStart => exact ⟨0, _, _, rfl, Nat.zero_le _, rfl, by simp, OwnL.nil _ _, Below.refl _ _⟩
  case round =>
    obtain ⟨m, k, vo, rfl, hm, rfl, hk, ho, hb⟩ := hrel
    have HO := Lib.hid ho
    have HB := Lib.hid hb
    have HK := Lib.hid hk
    clear ho hb
    by_cases hlt : m < n
    · have hlt' : k < (f : Int) + (n : Int) := by omega
      have w2 : IntKind.i64.wrap (-1000 * (i : Int) - k) = -1000 * (i : Int) - k := wrap_is (by omega) (by omega)
      have w3 : IntKind.i64.wrap (-1000 * (i : Int) - k - 1) = -1000 * (i : Int) - k - 1 := wrap_is (by omega) (by omega)
      have w4 : IntKind.i64.wrap (k + 1) = k + 1 := wrap_is (by omega) (by omega)
      have HX : Hid (I64 (-1000 * (i : Int) - k - 1)) := Lib.hid (i64_ofB (by omega) (by omega))
      have HMS : Hid (marks i f m ++ [(-1000 * (i : Int) - k - 1, 0)] = marks i f (m + 1)) := Lib.hid (by rw [marks_succ, hk])
      have HOA := Lib.hid (HO.out.alloc (.cells #[.int .i64 (-1000 * (i : Int) - k - 1), .int .i64 0] 131))
      have HBA := Lib.hid (HB.out.alloc HB.out.size (.cells #[.int .i64 (-1000 * (i : Int) - k - 1), .int .i64 0] 131))
      have HSL : Hid (Sl tBal (wr.alloc (.cells #[.int .i64 (-1000 * (i : Int) - k - 1), .int .i64 0] 131)) (fun kk => some kk ≠ vo.ownBlock ∧ kk < (wr.alloc (.cells #[.int .i64 (-1000 * (i : Int) - k - 1), .int .i64 0] 131)).heap.size) (some ⟨wr.heap.size, 0, none⟩) [(-1000 * (i : Int) - k - 1, 0)]) :=
        Lib.hid (sl_one2 tBal (x := (-1000 * (i : Int) - k - 1, 0)) rfl (blk_new wr _) ⟨fun e => by have := (HO.out.lt _ e.symm).2; omega, by simp⟩ (bal_mk (-1000 * (i : Int) - k - 1, 0) HX.out (show I64 0 by decide)))
      have hml := marks_len i f m
      have h63 : (marks i f m).length + [((-1000 * (i : Int) - k - 1, 0) : Int × Int)].length ≤ maxLen := by simp only [List.length_cons, List.length_nil]; unfold maxLen; omega
      have hby : ((marks i f m).length + [((-1000 * (i : Int) - k - 1, 0) : Int × Int)].length) * 16 ≤ 140737488355328 := by simp only [List.length_cons, List.length_nil]; omega
      clear hml hk
      go_wp2_with (at_builtin; refine wp_app (T := tBal) rfl _ _ 106 rfl i0 (.agg #[.int .i64 0, .int .i64 0]) 16 Tryz.underlying106 hi0 hz0 hz1 hz2 rfl (by decide) bal_one w.heap.size vo (marks i f m) rfl HOA.out ⟨wr.heap.size, 0, none⟩ 1 [(-1000 * (i : Int) - k - 1, 0)] rfl HSL.out h63 hby HBA.out.size ?_; intro v2 w2 hown hg hnil hat; have HB2 := Lib.hid (Below.grown HBA.out hg HBA.out.size (fun k e => (HOA.out.lt k e).1)); have HO2 := Lib.hid hown; clear hown hg hnil hat)
      go_roundw
      case rel => exact ⟨m + 1, _, _, rfl, by omega, rfl, by have := HK.out; push_cast; omega, by rw [← HMS.out]; exact HO2.out, HB2.out⟩
      case measure => have := HK.out; simp [Go.RowKit.intOf]; omega
    · obtain rfl : m = n := by omega
      have hnl : ¬ k < (f : Int) + (m : Int) := by omega
      go_wp2_with fail
      go_ret
      exact ⟨_, rfl, HO.out, HB.out⟩
end Go.Proofs.YtacemlbfifhllaaGreat
