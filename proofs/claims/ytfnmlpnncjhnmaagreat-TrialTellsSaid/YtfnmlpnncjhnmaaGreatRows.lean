/-
  No cell of these rows narrows 'for every input' (looked for: loops, veiled, ifaces, maps, wideKeys, modest, calm, conditions, laid).
  DERIVED. THE GIVEN ROWS OF THIS SEAT. 4 by the template 'for every input the law returns true; each argument reads behind the call as it read before'; 0 by the template 'total and deterministic' (their statements: YtfnmlpnncjhnmaaGreatTotals.lean).
  GIVEN WITH THE SEED: the statements are not yours to turn. If you find one false, say at which input.
  Laid BY PROGRAM, IN A SANDBOX (cutbox-rows.mjs): the forced cells as the released guide's own fill.sh prints them over the translation 37f42c6019f3b3dc… (all of the seat's roots in one cut). By AI agents, Wed Nov 11 2026. No macro, syntax, notation, axiom, sorry.
-/
import Derived.Test.YtfnmlpnncjhnmaaGreatChecked
import GoSem.Claim
import GoSem.ClaimJoined
import GoSem.ClaimMapViews
import Derived.JoinedTies
import Derived.KernelRfl
namespace Go.Proofs.YtfnmlpnncjhnmaaGreat
/- THE CELL 'sum', in the pinned program and in every row, IS THE sha256 OF THE DUMP (.gsa) THAT YtfnmlpnncjhnmaaGreatProg.lean LOADS. Nothing in Lean hashes anything: it is a label: what it is worth is what the hold of that sum in a sandbox is worth. -/
noncomputable def Tryz.pinned : Pinned := { name := "ytfnmlpnncjhnmaagreat", sum := "37f42c6019f3b3dc9a72c5be44e76ced02d716bf780dc3ce04727ceb30a9b78c", checked := Tryz.checked }
namespace Rows
def none {H : Type} : Left H := { results := [], args := [] }

/-- 'variorumlaw10.TrialTells': WHATEVER THE INPUT: true; the input reads as it did. -/
def trialTellsSpec : ChangeSpec := { name := "trialTells", fn := fun _ => fun
  | [d1, d2, d3, d4] => { results := [.lit (.bool true)], args := [d1, d2, d3, d4] }
  | _ => none }
def trialTellsRow : OpenClaim := { program := "ytfnmlpnncjhnmaagreat", sum := "37f42c6019f3b3dc9a72c5be44e76ced02d716bf780dc3ce04727ceb30a9b78c", func := "variorum/variorumlaw10.TrialTells", spec := "trialTells", inPlace := ["slices.overlaps[variorum/api.Journal]"], unfollowed := true, recurses := true, apart := false }
def TrialTellsSaid : Prop := trialTellsRow.holds Tryz.pinned (OpenSpec.ofChange trialTellsSpec)

/-- ITS FALSE NEIGHBOUR: 'it returns false'. Refute it at one input. -/
def trialTellsWrong : ChangeSpec := { name := "trialTells", fn := fun _ => fun
  | [d1, d2, d3, d4] => { results := [.lit (.bool false)], args := [d1, d2, d3, d4] }
  | _ => none }
def TrialTellsWrongFalsely : Prop := trialTellsRow.holds Tryz.pinned (OpenSpec.ofChange trialTellsWrong)

/-- 'variorumlaw11.IncomeTells': WHATEVER THE INPUT: true; the input reads as it did. -/
def incomeTellsSpec : ChangeSpec := { name := "incomeTells", fn := fun _ => fun
  | [d1, d2, d3, d4, d5] => { results := [.lit (.bool true)], args := [d1, d2, d3, d4, d5] }
  | _ => none }
def incomeTellsRow : OpenClaim := { program := "ytfnmlpnncjhnmaagreat", sum := "37f42c6019f3b3dc9a72c5be44e76ced02d716bf780dc3ce04727ceb30a9b78c", func := "variorum/variorumlaw11.IncomeTells", spec := "incomeTells", inPlace := ["slices.overlaps[variorum/api.Journal]"], unfollowed := true, recurses := true, apart := false }
def IncomeTellsSaid : Prop := incomeTellsRow.holds Tryz.pinned (OpenSpec.ofChange incomeTellsSpec)

/-- ITS FALSE NEIGHBOUR: 'it returns false'. Refute it at one input. -/
def incomeTellsWrong : ChangeSpec := { name := "incomeTells", fn := fun _ => fun
  | [d1, d2, d3, d4, d5] => { results := [.lit (.bool false)], args := [d1, d2, d3, d4, d5] }
  | _ => none }
def IncomeTellsWrongFalsely : Prop := incomeTellsRow.holds Tryz.pinned (OpenSpec.ofChange incomeTellsWrong)

/-- 'variorumlaw12.SheetTells': WHATEVER THE INPUT: true; the input reads as it did. -/
def sheetTellsSpec : ChangeSpec := { name := "sheetTells", fn := fun _ => fun
  | [d1, d2, d3, d4] => { results := [.lit (.bool true)], args := [d1, d2, d3, d4] }
  | _ => none }
def sheetTellsRow : OpenClaim := { program := "ytfnmlpnncjhnmaagreat", sum := "37f42c6019f3b3dc9a72c5be44e76ced02d716bf780dc3ce04727ceb30a9b78c", func := "variorum/variorumlaw12.SheetTells", spec := "sheetTells", inPlace := ["slices.overlaps[variorum/api.Journal]"], unfollowed := true, recurses := true, apart := false }
def SheetTellsSaid : Prop := sheetTellsRow.holds Tryz.pinned (OpenSpec.ofChange sheetTellsSpec)

/-- ITS FALSE NEIGHBOUR: 'it returns false'. Refute it at one input. -/
def sheetTellsWrong : ChangeSpec := { name := "sheetTells", fn := fun _ => fun
  | [d1, d2, d3, d4] => { results := [.lit (.bool false)], args := [d1, d2, d3, d4] }
  | _ => none }
def SheetTellsWrongFalsely : Prop := sheetTellsRow.holds Tryz.pinned (OpenSpec.ofChange sheetTellsWrong)

/-- 'variorumlaw12.SheetMoves': WHATEVER THE INPUT: true; the input reads as it did. -/
def sheetMovesSpec : ChangeSpec := { name := "sheetMoves", fn := fun _ => fun
  | [d1, d2, d3, d4, d5] => { results := [.lit (.bool true)], args := [d1, d2, d3, d4, d5] }
  | _ => none }
def sheetMovesRow : OpenClaim := { program := "ytfnmlpnncjhnmaagreat", sum := "37f42c6019f3b3dc9a72c5be44e76ced02d716bf780dc3ce04727ceb30a9b78c", func := "variorum/variorumlaw12.SheetMoves", spec := "sheetMoves", inPlace := ["slices.overlaps[variorum/api.Journal]"], unfollowed := true, recurses := true, apart := false }
def SheetMovesSaid : Prop := sheetMovesRow.holds Tryz.pinned (OpenSpec.ofChange sheetMovesSpec)

/-- ITS FALSE NEIGHBOUR: 'it returns false'. Refute it at one input. -/
def sheetMovesWrong : ChangeSpec := { name := "sheetMoves", fn := fun _ => fun
  | [d1, d2, d3, d4, d5] => { results := [.lit (.bool false)], args := [d1, d2, d3, d4, d5] }
  | _ => none }
def SheetMovesWrongFalsely : Prop := sheetMovesRow.holds Tryz.pinned (OpenSpec.ofChange sheetMovesWrong)

/- THE SECOND FORM. 'bulk': how many values and letters a reading holds, each counted each time it is reached (what is shared counts as often as it is met; a slice's spare places count too). A statement '..UptoSaid' is the law's where the arguments, and the package variables that the reading takes, are together of bulk at most 1048576: NARROWER than '..Said'. Prove '..Said' where nothing that the law and all that it calls make is longer than what came in: it says more and counts as full. Else prove '..UptoSaid'. A law counts once. -/
mutual
def uptoBulk {H : Type} : DataW H → Nat
  | .lit (.string bytes) => bytes.length + 1
  | .lit _ => 1
  | .nil => 1
  | .ptr d => uptoBulk d + 1
  | .slice elems spare => uptoBulkAll elems + uptoBulkAll spare + 1
  | .agg parts => uptoBulkAll parts + 1
  | .iface _ d => uptoBulk d + 1
  | .map entries => uptoBulkEntries entries + 1
  | .held _ => 1
def uptoBulkAll {H : Type} : List (DataW H) → Nat
  | [] => 0
  | d :: r => uptoBulk d + uptoBulkAll r
def uptoBulkEntries {H : Type} : List (Lit × DataW H) → Nat
  | [] => 0
  | x :: r => uptoBulkEntry x + uptoBulkEntries r
def uptoBulkEntry {H : Type} : Lit × DataW H → Nat
  | (.string bytes, d) => bytes.length + uptoBulk d + 1
  | (_, d) => uptoBulk d + 1
 end
def uptoSmall : (H : Type) → List (DataW H) → Bool := fun _ ds => decide (uptoBulkAll ds ≤ 1048576)
def OpenSpec.upto (s : _root_.Go.ChangeSpec) : _root_.Go.OpenSpec := { _root_.Go.OpenSpec.ofChange s with cond := some uptoSmall }

/-- 'variorumlaw10.TrialTells', WHERE WHAT IT READS IS OF BULK AT MOST 1048576: true; the input reads as it did. -/
def trialTellsUptoRow : OpenClaim := { program := "ytfnmlpnncjhnmaagreat", sum := "37f42c6019f3b3dc9a72c5be44e76ced02d716bf780dc3ce04727ceb30a9b78c", func := "variorum/variorumlaw10.TrialTells", spec := "trialTells", inPlace := ["slices.overlaps[variorum/api.Journal]"], unfollowed := true, recurses := true, apart := false, narrowed := true }
def TrialTellsUptoSaid : Prop := trialTellsUptoRow.holds Tryz.pinned (OpenSpec.upto trialTellsSpec)

/-- 'variorumlaw11.IncomeTells', WHERE WHAT IT READS IS OF BULK AT MOST 1048576: true; the input reads as it did. -/
def incomeTellsUptoRow : OpenClaim := { program := "ytfnmlpnncjhnmaagreat", sum := "37f42c6019f3b3dc9a72c5be44e76ced02d716bf780dc3ce04727ceb30a9b78c", func := "variorum/variorumlaw11.IncomeTells", spec := "incomeTells", inPlace := ["slices.overlaps[variorum/api.Journal]"], unfollowed := true, recurses := true, apart := false, narrowed := true }
def IncomeTellsUptoSaid : Prop := incomeTellsUptoRow.holds Tryz.pinned (OpenSpec.upto incomeTellsSpec)

/-- 'variorumlaw12.SheetTells', WHERE WHAT IT READS IS OF BULK AT MOST 1048576: true; the input reads as it did. -/
def sheetTellsUptoRow : OpenClaim := { program := "ytfnmlpnncjhnmaagreat", sum := "37f42c6019f3b3dc9a72c5be44e76ced02d716bf780dc3ce04727ceb30a9b78c", func := "variorum/variorumlaw12.SheetTells", spec := "sheetTells", inPlace := ["slices.overlaps[variorum/api.Journal]"], unfollowed := true, recurses := true, apart := false, narrowed := true }
def SheetTellsUptoSaid : Prop := sheetTellsUptoRow.holds Tryz.pinned (OpenSpec.upto sheetTellsSpec)

/-- 'variorumlaw12.SheetMoves', WHERE WHAT IT READS IS OF BULK AT MOST 1048576: true; the input reads as it did. -/
def sheetMovesUptoRow : OpenClaim := { program := "ytfnmlpnncjhnmaagreat", sum := "37f42c6019f3b3dc9a72c5be44e76ced02d716bf780dc3ce04727ceb30a9b78c", func := "variorum/variorumlaw12.SheetMoves", spec := "sheetMoves", inPlace := ["slices.overlaps[variorum/api.Journal]"], unfollowed := true, recurses := true, apart := false, narrowed := true }
def SheetMovesUptoSaid : Prop := sheetMovesUptoRow.holds Tryz.pinned (OpenSpec.upto sheetMovesSpec)

end Rows
end Go.Proofs.YtfnmlpnncjhnmaaGreat
