/-
  No cell of these rows narrows 'for every input' (looked for: loops, veiled, ifaces, maps, wideKeys, modest, calm, conditions, laid).
  DERIVED. THE GIVEN ROWS OF THIS SEAT. 7 by the template 'for every input the law returns true; each argument reads behind the call as it read before'; 0 by the template 'total and deterministic' (their statements: YtfbbjlhhkfdncaaTotals.lean).
  GIVEN WITH THE SEED: the statements are not yours to turn. If you find one false, say at which input.
  Laid BY PROGRAM, IN A SANDBOX (cutbox-rows.mjs): the forced cells as the released guide's own fill.sh prints them over the translation 106b32d32dacf621… (all of the seat's roots in one cut). By AI agents, Wed Nov 11 2026. No macro, syntax, notation, axiom, sorry.
-/
import Derived.Test.YtfbbjlhhkfdncaaChecked
import GoSem.Claim
import GoSem.ClaimJoined
import GoSem.ClaimMapViews
import Derived.JoinedTies
import Derived.KernelRfl
namespace Go.Proofs.Ytfbbjlhhkfdncaa
/- THE CELL 'sum', in the pinned program and in every row, IS THE sha256 OF THE DUMP (.gsa) THAT YtfbbjlhhkfdncaaProg.lean LOADS. Nothing in Lean hashes anything: it is a label: what it is worth is what the hold of that sum in a sandbox is worth. -/
noncomputable def Try.pinned : Pinned := { name := "ytfbbjlhhkfdncaa", sum := "106b32d32dacf6216464659c12e10430ed51b8c3eb2e4a27db0c978fa5dddb1f", checked := Try.checked }
namespace Rows
def none {H : Type} : Left H := { results := [], args := [] }

/-- 'variorumlaw16.MergeApart': WHATEVER THE INPUT: true; the input reads as it did. -/
def mergeApartSpec : ChangeSpec := { name := "mergeApart", fn := fun _ => fun
  | [d] => { results := [.lit (.bool true)], args := [d] }
  | _ => none }
def mergeApartRow : OpenClaim := { program := "ytfbbjlhhkfdncaa", sum := "106b32d32dacf6216464659c12e10430ed51b8c3eb2e4a27db0c978fa5dddb1f", func := "variorum/variorumlaw16.MergeApart", spec := "mergeApart", inPlace := ["slices.overlaps[variorum/api.Journal]"], unfollowed := true, recurses := true, apart := false }
def MergeApartSaid : Prop := mergeApartRow.holds Try.pinned (OpenSpec.ofChange mergeApartSpec)

/-- ITS FALSE NEIGHBOUR: 'it returns false'. Refute it at one input. -/
def mergeApartWrong : ChangeSpec := { name := "mergeApart", fn := fun _ => fun
  | [d] => { results := [.lit (.bool false)], args := [d] }
  | _ => none }
def MergeApartWrongFalsely : Prop := mergeApartRow.holds Try.pinned (OpenSpec.ofChange mergeApartWrong)

/-- 'variorumlaw16.MergeLike': WHATEVER THE INPUT: true; the input reads as it did. -/
def mergeLikeSpec : ChangeSpec := { name := "mergeLike", fn := fun _ => fun
  | [d] => { results := [.lit (.bool true)], args := [d] }
  | _ => none }
def mergeLikeRow : OpenClaim := { program := "ytfbbjlhhkfdncaa", sum := "106b32d32dacf6216464659c12e10430ed51b8c3eb2e4a27db0c978fa5dddb1f", func := "variorum/variorumlaw16.MergeLike", spec := "mergeLike", inPlace := ["slices.overlaps[variorum/api.Journal]"], unfollowed := true, recurses := true, apart := false }
def MergeLikeSaid : Prop := mergeLikeRow.holds Try.pinned (OpenSpec.ofChange mergeLikeSpec)

/-- ITS FALSE NEIGHBOUR: 'it returns false'. Refute it at one input. -/
def mergeLikeWrong : ChangeSpec := { name := "mergeLike", fn := fun _ => fun
  | [d] => { results := [.lit (.bool false)], args := [d] }
  | _ => none }
def MergeLikeWrongFalsely : Prop := mergeLikeRow.holds Try.pinned (OpenSpec.ofChange mergeLikeWrong)

/-- 'variorumlaw16.MergeKinds': WHATEVER THE INPUT: true; the input reads as it did. -/
def mergeKindsSpec : ChangeSpec := { name := "mergeKinds", fn := fun _ => fun
  | [d1, d2] => { results := [.lit (.bool true)], args := [d1, d2] }
  | _ => none }
def mergeKindsRow : OpenClaim := { program := "ytfbbjlhhkfdncaa", sum := "106b32d32dacf6216464659c12e10430ed51b8c3eb2e4a27db0c978fa5dddb1f", func := "variorum/variorumlaw16.MergeKinds", spec := "mergeKinds", inPlace := ["slices.overlaps[variorum/api.Journal]"], unfollowed := true, recurses := true, apart := false }
def MergeKindsSaid : Prop := mergeKindsRow.holds Try.pinned (OpenSpec.ofChange mergeKindsSpec)

/-- ITS FALSE NEIGHBOUR: 'it returns false'. Refute it at one input. -/
def mergeKindsWrong : ChangeSpec := { name := "mergeKinds", fn := fun _ => fun
  | [d1, d2] => { results := [.lit (.bool false)], args := [d1, d2] }
  | _ => none }
def MergeKindsWrongFalsely : Prop := mergeKindsRow.holds Try.pinned (OpenSpec.ofChange mergeKindsWrong)

/-- 'variorumlaw10.TrialPlus': WHATEVER THE INPUT: true; the input reads as it did. -/
def trialPlusSpec : ChangeSpec := { name := "trialPlus", fn := fun _ => fun
  | [d1, d2] => { results := [.lit (.bool true)], args := [d1, d2] }
  | _ => none }
def trialPlusRow : OpenClaim := { program := "ytfbbjlhhkfdncaa", sum := "106b32d32dacf6216464659c12e10430ed51b8c3eb2e4a27db0c978fa5dddb1f", func := "variorum/variorumlaw10.TrialPlus", spec := "trialPlus", inPlace := ["slices.overlaps[variorum/api.Journal]"], unfollowed := true, recurses := true, apart := false }
def TrialPlusSaid : Prop := trialPlusRow.holds Try.pinned (OpenSpec.ofChange trialPlusSpec)

/-- ITS FALSE NEIGHBOUR: 'it returns false'. Refute it at one input. -/
def trialPlusWrong : ChangeSpec := { name := "trialPlus", fn := fun _ => fun
  | [d1, d2] => { results := [.lit (.bool false)], args := [d1, d2] }
  | _ => none }
def TrialPlusWrongFalsely : Prop := trialPlusRow.holds Try.pinned (OpenSpec.ofChange trialPlusWrong)

/-- 'variorumlaw10.TrialPicks': WHATEVER THE INPUT: true; the input reads as it did. -/
def trialPicksSpec : ChangeSpec := { name := "trialPicks", fn := fun _ => fun
  | [d1, d2, d3] => { results := [.lit (.bool true)], args := [d1, d2, d3] }
  | _ => none }
def trialPicksRow : OpenClaim := { program := "ytfbbjlhhkfdncaa", sum := "106b32d32dacf6216464659c12e10430ed51b8c3eb2e4a27db0c978fa5dddb1f", func := "variorum/variorumlaw10.TrialPicks", spec := "trialPicks", inPlace := ["slices.overlaps[variorum/api.Journal]"], unfollowed := true, recurses := true, apart := false }
def TrialPicksSaid : Prop := trialPicksRow.holds Try.pinned (OpenSpec.ofChange trialPicksSpec)

/-- ITS FALSE NEIGHBOUR: 'it returns false'. Refute it at one input. -/
def trialPicksWrong : ChangeSpec := { name := "trialPicks", fn := fun _ => fun
  | [d1, d2, d3] => { results := [.lit (.bool false)], args := [d1, d2, d3] }
  | _ => none }
def TrialPicksWrongFalsely : Prop := trialPicksRow.holds Try.pinned (OpenSpec.ofChange trialPicksWrong)

/-- 'variorumlaw15.DeltaApplies': WHATEVER THE INPUT: true; the input reads as it did. -/
def deltaAppliesSpec : ChangeSpec := { name := "deltaApplies", fn := fun _ => fun
  | [d1, d2] => { results := [.lit (.bool true)], args := [d1, d2] }
  | _ => none }
def deltaAppliesRow : OpenClaim := { program := "ytfbbjlhhkfdncaa", sum := "106b32d32dacf6216464659c12e10430ed51b8c3eb2e4a27db0c978fa5dddb1f", func := "variorum/variorumlaw15.DeltaApplies", spec := "deltaApplies", inPlace := ["slices.overlaps[variorum/api.Journal]"], unfollowed := true, recurses := true, apart := false }
def DeltaAppliesSaid : Prop := deltaAppliesRow.holds Try.pinned (OpenSpec.ofChange deltaAppliesSpec)

/-- ITS FALSE NEIGHBOUR: 'it returns false'. Refute it at one input. -/
def deltaAppliesWrong : ChangeSpec := { name := "deltaApplies", fn := fun _ => fun
  | [d1, d2] => { results := [.lit (.bool false)], args := [d1, d2] }
  | _ => none }
def DeltaAppliesWrongFalsely : Prop := deltaAppliesRow.holds Try.pinned (OpenSpec.ofChange deltaAppliesWrong)

/-- 'variorumlaw15.DeltaSteps': WHATEVER THE INPUT: true; the input reads as it did. -/
def deltaStepsSpec : ChangeSpec := { name := "deltaSteps", fn := fun _ => fun
  | [d] => { results := [.lit (.bool true)], args := [d] }
  | _ => none }
def deltaStepsRow : OpenClaim := { program := "ytfbbjlhhkfdncaa", sum := "106b32d32dacf6216464659c12e10430ed51b8c3eb2e4a27db0c978fa5dddb1f", func := "variorum/variorumlaw15.DeltaSteps", spec := "deltaSteps", inPlace := ["slices.overlaps[variorum/api.Journal]"], unfollowed := true, recurses := true, apart := false }
def DeltaStepsSaid : Prop := deltaStepsRow.holds Try.pinned (OpenSpec.ofChange deltaStepsSpec)

/-- ITS FALSE NEIGHBOUR: 'it returns false'. Refute it at one input. -/
def deltaStepsWrong : ChangeSpec := { name := "deltaSteps", fn := fun _ => fun
  | [d] => { results := [.lit (.bool false)], args := [d] }
  | _ => none }
def DeltaStepsWrongFalsely : Prop := deltaStepsRow.holds Try.pinned (OpenSpec.ofChange deltaStepsWrong)

/- THE SECOND FORM. 'bulk': how many values and letters a reading holds, each counted each time it is reached (what is shared counts as often as it is met; a slice's spare places count too). A statement '..UptoSaid' is the law's where the arguments, and the package variables that the reading takes, are together of bulk at most 1048576: NARROWER than '..Said'. Prove '..Said' where nothing that the law and all that it calls make is longer than what came in: it says more and counts as full. Else prove '..UptoSaid'. A law counts once. -/
mutual
def uptoBulk {H : Type} : DataW H → Nat
  | .lit (.string bytes) => bytes.length + 1
  | .lit _ => 1
  | .nil => 1
  | .ptr d => uptoBulk d + 1
  | .slice elems spare => uptoBulkAll elems + uptoBulkAll spare + 1
  | .agg parts => uptoBulkAll parts + 1
  | .iface _ d => uptoBulk d + 1
  | .map entries => uptoBulkEntries entries + 1
  | .held _ => 1
def uptoBulkAll {H : Type} : List (DataW H) → Nat
  | [] => 0
  | d :: r => uptoBulk d + uptoBulkAll r
def uptoBulkEntries {H : Type} : List (Lit × DataW H) → Nat
  | [] => 0
  | x :: r => uptoBulkEntry x + uptoBulkEntries r
def uptoBulkEntry {H : Type} : Lit × DataW H → Nat
  | (.string bytes, d) => bytes.length + uptoBulk d + 1
  | (_, d) => uptoBulk d + 1
 end
def uptoSmall : (H : Type) → List (DataW H) → Bool := fun _ ds => decide (uptoBulkAll ds ≤ 1048576)
def OpenSpec.upto (s : _root_.Go.ChangeSpec) : _root_.Go.OpenSpec := { _root_.Go.OpenSpec.ofChange s with cond := some uptoSmall }

/-- 'variorumlaw16.MergeApart', WHERE WHAT IT READS IS OF BULK AT MOST 1048576: true; the input reads as it did. -/
def mergeApartUptoRow : OpenClaim := { program := "ytfbbjlhhkfdncaa", sum := "106b32d32dacf6216464659c12e10430ed51b8c3eb2e4a27db0c978fa5dddb1f", func := "variorum/variorumlaw16.MergeApart", spec := "mergeApart", inPlace := ["slices.overlaps[variorum/api.Journal]"], unfollowed := true, recurses := true, apart := false, narrowed := true }
def MergeApartUptoSaid : Prop := mergeApartUptoRow.holds Try.pinned (OpenSpec.upto mergeApartSpec)

/-- 'variorumlaw16.MergeLike', WHERE WHAT IT READS IS OF BULK AT MOST 1048576: true; the input reads as it did. -/
def mergeLikeUptoRow : OpenClaim := { program := "ytfbbjlhhkfdncaa", sum := "106b32d32dacf6216464659c12e10430ed51b8c3eb2e4a27db0c978fa5dddb1f", func := "variorum/variorumlaw16.MergeLike", spec := "mergeLike", inPlace := ["slices.overlaps[variorum/api.Journal]"], unfollowed := true, recurses := true, apart := false, narrowed := true }
def MergeLikeUptoSaid : Prop := mergeLikeUptoRow.holds Try.pinned (OpenSpec.upto mergeLikeSpec)

/-- 'variorumlaw16.MergeKinds', WHERE WHAT IT READS IS OF BULK AT MOST 1048576: true; the input reads as it did. -/
def mergeKindsUptoRow : OpenClaim := { program := "ytfbbjlhhkfdncaa", sum := "106b32d32dacf6216464659c12e10430ed51b8c3eb2e4a27db0c978fa5dddb1f", func := "variorum/variorumlaw16.MergeKinds", spec := "mergeKinds", inPlace := ["slices.overlaps[variorum/api.Journal]"], unfollowed := true, recurses := true, apart := false, narrowed := true }
def MergeKindsUptoSaid : Prop := mergeKindsUptoRow.holds Try.pinned (OpenSpec.upto mergeKindsSpec)

/-- 'variorumlaw10.TrialPlus', WHERE WHAT IT READS IS OF BULK AT MOST 1048576: true; the input reads as it did. -/
def trialPlusUptoRow : OpenClaim := { program := "ytfbbjlhhkfdncaa", sum := "106b32d32dacf6216464659c12e10430ed51b8c3eb2e4a27db0c978fa5dddb1f", func := "variorum/variorumlaw10.TrialPlus", spec := "trialPlus", inPlace := ["slices.overlaps[variorum/api.Journal]"], unfollowed := true, recurses := true, apart := false, narrowed := true }
def TrialPlusUptoSaid : Prop := trialPlusUptoRow.holds Try.pinned (OpenSpec.upto trialPlusSpec)

/-- 'variorumlaw10.TrialPicks', WHERE WHAT IT READS IS OF BULK AT MOST 1048576: true; the input reads as it did. -/
def trialPicksUptoRow : OpenClaim := { program := "ytfbbjlhhkfdncaa", sum := "106b32d32dacf6216464659c12e10430ed51b8c3eb2e4a27db0c978fa5dddb1f", func := "variorum/variorumlaw10.TrialPicks", spec := "trialPicks", inPlace := ["slices.overlaps[variorum/api.Journal]"], unfollowed := true, recurses := true, apart := false, narrowed := true }
def TrialPicksUptoSaid : Prop := trialPicksUptoRow.holds Try.pinned (OpenSpec.upto trialPicksSpec)

/-- 'variorumlaw15.DeltaApplies', WHERE WHAT IT READS IS OF BULK AT MOST 1048576: true; the input reads as it did. -/
def deltaAppliesUptoRow : OpenClaim := { program := "ytfbbjlhhkfdncaa", sum := "106b32d32dacf6216464659c12e10430ed51b8c3eb2e4a27db0c978fa5dddb1f", func := "variorum/variorumlaw15.DeltaApplies", spec := "deltaApplies", inPlace := ["slices.overlaps[variorum/api.Journal]"], unfollowed := true, recurses := true, apart := false, narrowed := true }
def DeltaAppliesUptoSaid : Prop := deltaAppliesUptoRow.holds Try.pinned (OpenSpec.upto deltaAppliesSpec)

/-- 'variorumlaw15.DeltaSteps', WHERE WHAT IT READS IS OF BULK AT MOST 1048576: true; the input reads as it did. -/
def deltaStepsUptoRow : OpenClaim := { program := "ytfbbjlhhkfdncaa", sum := "106b32d32dacf6216464659c12e10430ed51b8c3eb2e4a27db0c978fa5dddb1f", func := "variorum/variorumlaw15.DeltaSteps", spec := "deltaSteps", inPlace := ["slices.overlaps[variorum/api.Journal]"], unfollowed := true, recurses := true, apart := false, narrowed := true }
def DeltaStepsUptoSaid : Prop := deltaStepsUptoRow.holds Try.pinned (OpenSpec.upto deltaStepsSpec)

end Rows
end Go.Proofs.Ytfbbjlhhkfdncaa
