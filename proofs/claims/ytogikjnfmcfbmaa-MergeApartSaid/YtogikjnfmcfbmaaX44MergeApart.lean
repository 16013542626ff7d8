/- law 16: three books as an argument, how they lie. -/
import Derived.Test.YtogikjnfmcfbmaaX37MergeApart
import Derived.Test.YtogikjnfmcfbmaaX43MergeApart
set_option linter.unusedVariables false
set_option linter.unusedSimpArgs false
namespace Go.Proofs.Ytogikjnfmcfbmaa
open Go.RowKit Go.Maps

def f3 : Flds Try.prog [fld "Base" 22 0 0, fld "More1" 22 1 24, fld "More2" 22 2 48, fld "Edits1" 23 3 72, fld "Edits2" 23 4 96] 0 (List Jn × List Jn × List Jn × List Ed × List Ed × Unit) :=
  Flds.cons (f := fld "Base" 22 0 0) tJns rfl (Flds.cons (f := fld "More1" 22 1 24) tJns rfl (Flds.cons (f := fld "More2" 22 2 48) tJns rfl
    (Flds.cons (f := fld "Edits1" 23 3 72) tEds rfl (Flds.cons (f := fld "Edits2" 23 4 96) tEds rfl (Flds.nil _ _)))))
def t3 : Ty Try.prog 25 (List Jn × List Jn × List Jn × List Ed × List Ed × Unit) := Ty.struct Try.underlying25 f3 (by kernel_rfl)
theorem t3_inv {w : World} {F : Nat → Prop} {cs : List Value} {x : List Jn × List Jn × List Jn × List Ed × List Ed × Unit} (h : t3.R w F cs x) :
    ∃ a0 a1 a2 e1 e2 c0 c1 c2 d1 d2, cs = [.slice a0 x.1.length c0, .slice a1 x.2.1.length c1, .slice a2 x.2.2.1.length c2, .slice e1 x.2.2.2.1.length d1, .slice e2 x.2.2.2.2.1.length d2] ∧
      Sl tJn w F a0 x.1 ∧ Sl tJn w F a1 x.2.1 ∧ Sl tJn w F a2 x.2.2.1 ∧ Sl tEd w F e1 x.2.2.2.1 ∧ Sl tEd w F e2 x.2.2.2.2.1 ∧
      x.1.length ≤ maxLen ∧ x.2.1.length ≤ maxLen ∧ x.2.2.1.length ≤ maxLen ∧ x.2.2.2.1.length ≤ maxLen ∧ x.2.2.2.2.1.length ≤ maxLen := by
  obtain ⟨k1, r1, rfl, ⟨a0, c0, rfl, s0, l0, m0, _⟩, k2, r2, rfl, ⟨a1, c1, rfl, s1, l1, m1, _⟩, k3, r3, rfl, ⟨a2, c2, rfl, s2, l2, m2, _⟩, k4, r4, rfl, ⟨e1, d1, rfl, s3, l3, m3, _⟩, k5, r5, rfl, ⟨e2, d2, rfl, s4, l4, m4, _⟩, rfl⟩ := h
  exact ⟨a0, a1, a2, e1, e2, c0, c1, c2, d1, d2, rfl, s0, s1, s2, s3, s4, Nat.le_trans l0 m0, Nat.le_trans l1 m1, Nat.le_trans l2 m2, Nat.le_trans l3 m3, Nat.le_trans l4 m4⟩
end Go.Proofs.Ytogikjnfmcfbmaa


/- MergeApart's row. -/
set_option linter.unusedVariables false
set_option linter.unusedSimpArgs false
namespace Go.Proofs.Ytogikjnfmcfbmaa
open Go.RowKit Go.Maps

theorem mergeApart_row (cs : Array Value) (x : List Jn × List Jn × List Jn × List Ed × List Ed × Unit) (w : World) (h : t3.R w (fun _ => True) cs.toList x) : Calls Try.prog 3 #[.agg cs] w fun e w' => e = .returned (.bool true) ∧ Below w.heap.size w w' := by
  obtain ⟨a0, a1, a2, e1, e2, c0, c1, c2, d1, d2, hcs, s0, s1, s2, s3, s4, k0, k1, k2, k3, k4⟩ := t3_inv h
  obtain rfl : cs = #[.slice a0 x.1.length c0, .slice a1 x.2.1.length c1, .slice a2 x.2.2.1.length c2, .slice e1 x.2.2.2.1.length d1, .slice e2 x.2.2.2.2.1.length d2] := by
    cases cs
    exact congrArg Array.mk hcs
  exact mergeApart_any x.1 x.2.1 x.2.2.1 x.2.2.2.1 x.2.2.2.2.1 a0 a1 a2 e1 e2 c0 c1 c2 d1 d2 w s0 s1 s2 s3 s4 k0 k1 k2 k3 k4
end Go.Proofs.Ytogikjnfmcfbmaa
