/- GroupInner, as its row asks. -/
import Derived.Test.YtgggpaacagbmcaaGreatX48GroupInner
set_option linter.unusedVariables false
set_option linter.unusedSimpArgs false
namespace Go.Proofs.YtgggpaacagbmcaaGreat
open Go.RowKit Go.Maps Go.Deep

theorem groupInner_row (a0 : Option Addr) (len0 cap0 : Nat) (x0 : List Jn) (a1 : Int) (a2 : Option Addr) (len2 cap2 : Nat) (x2 : List Mb) (w : World) (y0 : tJns.R w (fun _ => True) [.slice a0 len0 cap0] x0) (w1 : I64 a1) (y2 : tMbs.R w (fun _ => True) [.slice a2 len2 cap2] x2) :
    Calls Tryz.prog 4 #[.slice a0 len0 cap0, .int .i64 a1, .slice a2 len2 cap2] w fun en w' => en = .returned (.bool true) ∧ Below w.heap.size w w' := by
  obtain ⟨a, cap, he, hs, hle, hcm, _⟩ := y0
  simp only [List.cons.injEq, Value.slice.injEq, and_true] at he
  obtain ⟨rfl, rfl, rfl⟩ := he
  obtain ⟨a', cap', he, hs', hle', hcm', _⟩ := y2
  simp only [List.cons.injEq, Value.slice.injEq, and_true] at he
  obtain ⟨rfl, rfl, rfl⟩ := he
  exact groupInner_any x0 _ _ a1 w1 x2 _ _ w hs (Nat.le_trans hle hcm) hs' (Nat.le_trans hle' hcm')
end Go.Proofs.YtgggpaacagbmcaaGreat
