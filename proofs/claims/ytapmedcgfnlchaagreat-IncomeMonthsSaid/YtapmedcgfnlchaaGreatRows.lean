/-
  No cell of these rows narrows 'for every input' (looked for: loops, veiled, ifaces, maps, wideKeys, modest, calm, conditions, laid).
  DERIVED. THE GIVEN ROWS OF THIS SEAT. 4 by the template 'for every input the law returns true; each argument reads behind the call as it read before'; 0 by the template 'total and deterministic' (their statements: YtapmedcgfnlchaaGreatTotals.lean).
  GIVEN WITH THE SEED: the statements are not yours to turn. If you find one false, say at which input.
  Laid BY PROGRAM, IN A SANDBOX (cutbox-rows.mjs): the forced cells as the released guide's own fill.sh prints them over the translation 7cd92bf6faae28f8… (all of the seat's roots in one cut). By AI agents, Wed Nov 11 2026. No macro, syntax, notation, axiom, sorry.
-/
import Derived.Test.YtapmedcgfnlchaaGreatChecked
import GoSem.Claim
import GoSem.ClaimJoined
import GoSem.ClaimMapViews
import Derived.JoinedTies
import Derived.KernelRfl
namespace Go.Proofs.YtapmedcgfnlchaaGreat
/- THE CELL 'sum', in the pinned program and in every row, IS THE sha256 OF THE DUMP (.gsa) THAT YtapmedcgfnlchaaGreatProg.lean LOADS. Nothing in Lean hashes anything: it is a label: what it is worth is what the hold of that sum in a sandbox is worth. -/
noncomputable def Tryz.pinned : Pinned := { name := "ytapmedcgfnlchaagreat", sum := "7cd92bf6faae28f856fd5f84d646071b47b6de40ace28e00ec11ee2287ed1820", checked := Tryz.checked }
namespace Rows
def none {H : Type} : Left H := { results := [], args := [] }

/-- 'variorumlaw11.IncomeMonths': WHATEVER THE INPUT: true; the input reads as it did. -/
def incomeMonthsSpec : ChangeSpec := { name := "incomeMonths", fn := fun _ => fun
  | [d1, d2, d3, d4, d5] => { results := [.lit (.bool true)], args := [d1, d2, d3, d4, d5] }
  | _ => none }
def incomeMonthsRow : OpenClaim := { program := "ytapmedcgfnlchaagreat", sum := "7cd92bf6faae28f856fd5f84d646071b47b6de40ace28e00ec11ee2287ed1820", func := "variorum/variorumlaw11.IncomeMonths", spec := "incomeMonths", inPlace := ["slices.overlaps[variorum/api.Journal]"], unfollowed := true, recurses := true, apart := false }
def IncomeMonthsSaid : Prop := incomeMonthsRow.holds Tryz.pinned (OpenSpec.ofChange incomeMonthsSpec)

/-- ITS FALSE NEIGHBOUR: 'it returns false'. Refute it at one input. -/
def incomeMonthsWrong : ChangeSpec := { name := "incomeMonths", fn := fun _ => fun
  | [d1, d2, d3, d4, d5] => { results := [.lit (.bool false)], args := [d1, d2, d3, d4, d5] }
  | _ => none }
def IncomeMonthsWrongFalsely : Prop := incomeMonthsRow.holds Tryz.pinned (OpenSpec.ofChange incomeMonthsWrong)

/-- 'variorumlaw12.SheetHolds': WHATEVER THE INPUT: true; the input reads as it did. -/
def sheetHoldsSpec : ChangeSpec := { name := "sheetHolds", fn := fun _ => fun
  | [d1, d2, d3, d4, d5, d6] => { results := [.lit (.bool true)], args := [d1, d2, d3, d4, d5, d6] }
  | _ => none }
def sheetHoldsRow : OpenClaim := { program := "ytapmedcgfnlchaagreat", sum := "7cd92bf6faae28f856fd5f84d646071b47b6de40ace28e00ec11ee2287ed1820", func := "variorum/variorumlaw12.SheetHolds", spec := "sheetHolds", inPlace := ["slices.overlaps[variorum/api.Journal]"], unfollowed := true, recurses := true, apart := false }
def SheetHoldsSaid : Prop := sheetHoldsRow.holds Tryz.pinned (OpenSpec.ofChange sheetHoldsSpec)

/-- ITS FALSE NEIGHBOUR: 'it returns false'. Refute it at one input. -/
def sheetHoldsWrong : ChangeSpec := { name := "sheetHolds", fn := fun _ => fun
  | [d1, d2, d3, d4, d5, d6] => { results := [.lit (.bool false)], args := [d1, d2, d3, d4, d5, d6] }
  | _ => none }
def SheetHoldsWrongFalsely : Prop := sheetHoldsRow.holds Tryz.pinned (OpenSpec.ofChange sheetHoldsWrong)

/-- 'variorumlaw12.SheetMoves': WHATEVER THE INPUT: true; the input reads as it did. -/
def sheetMovesSpec : ChangeSpec := { name := "sheetMoves", fn := fun _ => fun
  | [d1, d2, d3, d4, d5] => { results := [.lit (.bool true)], args := [d1, d2, d3, d4, d5] }
  | _ => none }
def sheetMovesRow : OpenClaim := { program := "ytapmedcgfnlchaagreat", sum := "7cd92bf6faae28f856fd5f84d646071b47b6de40ace28e00ec11ee2287ed1820", func := "variorum/variorumlaw12.SheetMoves", spec := "sheetMoves", inPlace := ["slices.overlaps[variorum/api.Journal]"], unfollowed := true, recurses := true, apart := false }
def SheetMovesSaid : Prop := sheetMovesRow.holds Tryz.pinned (OpenSpec.ofChange sheetMovesSpec)

/-- ITS FALSE NEIGHBOUR: 'it returns false'. Refute it at one input. -/
def sheetMovesWrong : ChangeSpec := { name := "sheetMoves", fn := fun _ => fun
  | [d1, d2, d3, d4, d5] => { results := [.lit (.bool false)], args := [d1, d2, d3, d4, d5] }
  | _ => none }
def SheetMovesWrongFalsely : Prop := sheetMovesRow.holds Tryz.pinned (OpenSpec.ofChange sheetMovesWrong)

/-- 'variorumlaw12.SheetRolls': WHATEVER THE INPUT: true; the input reads as it did. -/
def sheetRollsSpec : ChangeSpec := { name := "sheetRolls", fn := fun _ => fun
  | [d1, d2, d3, d4] => { results := [.lit (.bool true)], args := [d1, d2, d3, d4] }
  | _ => none }
def sheetRollsRow : OpenClaim := { program := "ytapmedcgfnlchaagreat", sum := "7cd92bf6faae28f856fd5f84d646071b47b6de40ace28e00ec11ee2287ed1820", func := "variorum/variorumlaw12.SheetRolls", spec := "sheetRolls", inPlace := ["slices.overlaps[variorum/api.Journal]"], unfollowed := true, recurses := true, apart := false }
def SheetRollsSaid : Prop := sheetRollsRow.holds Tryz.pinned (OpenSpec.ofChange sheetRollsSpec)

/-- ITS FALSE NEIGHBOUR: 'it returns false'. Refute it at one input. -/
def sheetRollsWrong : ChangeSpec := { name := "sheetRolls", fn := fun _ => fun
  | [d1, d2, d3, d4] => { results := [.lit (.bool false)], args := [d1, d2, d3, d4] }
  | _ => none }
def SheetRollsWrongFalsely : Prop := sheetRollsRow.holds Tryz.pinned (OpenSpec.ofChange sheetRollsWrong)

/- THE SECOND FORM. 'bulk': how many values and letters a reading holds, each counted each time it is reached (what is shared counts as often as it is met; a slice's spare places count too). A statement '..UptoSaid' is the law's where the arguments, and the package variables that the reading takes, are together of bulk at most 1048576: NARROWER than '..Said'. Prove '..Said' where nothing that the law and all that it calls make is longer than what came in: it says more and counts as full. Else prove '..UptoSaid'. A law counts once. -/
mutual
def uptoBulk {H : Type} : DataW H → Nat
  | .lit (.string bytes) => bytes.length + 1
  | .lit _ => 1
  | .nil => 1
  | .ptr d => uptoBulk d + 1
  | .slice elems spare => uptoBulkAll elems + uptoBulkAll spare + 1
  | .agg parts => uptoBulkAll parts + 1
  | .iface _ d => uptoBulk d + 1
  | .map entries => uptoBulkEntries entries + 1
  | .held _ => 1
def uptoBulkAll {H : Type} : List (DataW H) → Nat
  | [] => 0
  | d :: r => uptoBulk d + uptoBulkAll r
def uptoBulkEntries {H : Type} : List (Lit × DataW H) → Nat
  | [] => 0
  | x :: r => uptoBulkEntry x + uptoBulkEntries r
def uptoBulkEntry {H : Type} : Lit × DataW H → Nat
  | (.string bytes, d) => bytes.length + uptoBulk d + 1
  | (_, d) => uptoBulk d + 1
 end
def uptoSmall : (H : Type) → List (DataW H) → Bool := fun _ ds => decide (uptoBulkAll ds ≤ 1048576)
def OpenSpec.upto (s : _root_.Go.ChangeSpec) : _root_.Go.OpenSpec := { _root_.Go.OpenSpec.ofChange s with cond := some uptoSmall }

/-- 'variorumlaw11.IncomeMonths', WHERE WHAT IT READS IS OF BULK AT MOST 1048576: true; the input reads as it did. -/
def incomeMonthsUptoRow : OpenClaim := { program := "ytapmedcgfnlchaagreat", sum := "7cd92bf6faae28f856fd5f84d646071b47b6de40ace28e00ec11ee2287ed1820", func := "variorum/variorumlaw11.IncomeMonths", spec := "incomeMonths", inPlace := ["slices.overlaps[variorum/api.Journal]"], unfollowed := true, recurses := true, apart := false, narrowed := true }
def IncomeMonthsUptoSaid : Prop := incomeMonthsUptoRow.holds Tryz.pinned (OpenSpec.upto incomeMonthsSpec)

/-- 'variorumlaw12.SheetHolds', WHERE WHAT IT READS IS OF BULK AT MOST 1048576: true; the input reads as it did. -/
def sheetHoldsUptoRow : OpenClaim := { program := "ytapmedcgfnlchaagreat", sum := "7cd92bf6faae28f856fd5f84d646071b47b6de40ace28e00ec11ee2287ed1820", func := "variorum/variorumlaw12.SheetHolds", spec := "sheetHolds", inPlace := ["slices.overlaps[variorum/api.Journal]"], unfollowed := true, recurses := true, apart := false, narrowed := true }
def SheetHoldsUptoSaid : Prop := sheetHoldsUptoRow.holds Tryz.pinned (OpenSpec.upto sheetHoldsSpec)

/-- 'variorumlaw12.SheetMoves', WHERE WHAT IT READS IS OF BULK AT MOST 1048576: true; the input reads as it did. -/
def sheetMovesUptoRow : OpenClaim := { program := "ytapmedcgfnlchaagreat", sum := "7cd92bf6faae28f856fd5f84d646071b47b6de40ace28e00ec11ee2287ed1820", func := "variorum/variorumlaw12.SheetMoves", spec := "sheetMoves", inPlace := ["slices.overlaps[variorum/api.Journal]"], unfollowed := true, recurses := true, apart := false, narrowed := true }
def SheetMovesUptoSaid : Prop := sheetMovesUptoRow.holds Tryz.pinned (OpenSpec.upto sheetMovesSpec)

/-- 'variorumlaw12.SheetRolls', WHERE WHAT IT READS IS OF BULK AT MOST 1048576: true; the input reads as it did. -/
def sheetRollsUptoRow : OpenClaim := { program := "ytapmedcgfnlchaagreat", sum := "7cd92bf6faae28f856fd5f84d646071b47b6de40ace28e00ec11ee2287ed1820", func := "variorum/variorumlaw12.SheetRolls", spec := "sheetRolls", inPlace := ["slices.overlaps[variorum/api.Journal]"], unfollowed := true, recurses := true, apart := false, narrowed := true }
def SheetRollsUptoSaid : Prop := sheetRollsUptoRow.holds Tryz.pinned (OpenSpec.upto sheetRollsSpec)

end Rows
end Go.Proofs.YtapmedcgfnlchaaGreat
