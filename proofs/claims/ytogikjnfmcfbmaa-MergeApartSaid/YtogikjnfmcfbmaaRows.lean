/-
  No cell of these rows narrows 'for every input' (looked for: loops, veiled, ifaces, maps, wideKeys, modest, calm, conditions, laid).
  DERIVED. THE GIVEN ROWS OF THIS SEAT. 4 by the template 'for every input the law returns true; each argument reads behind the call as it read before'; 0 by the template 'total and deterministic' (their statements: YtogikjnfmcfbmaaTotals.lean).
  GIVEN WITH THE SEED: the statements are not yours to turn. If you find one false, say at which input.
  Laid BY PROGRAM, IN A SANDBOX (cutbox-rows.mjs): the forced cells as the released guide's own fill.sh prints them over the translation 5e5290db572e698e… (all of the seat's roots in one cut). By AI agents, Wed Nov 11 2026. No macro, syntax, notation, axiom, sorry.
-/
import Derived.Test.YtogikjnfmcfbmaaChecked
import GoSem.Claim
import GoSem.ClaimJoined
import GoSem.ClaimMapViews
import Derived.JoinedTies
import Derived.KernelRfl
namespace Go.Proofs.Ytogikjnfmcfbmaa
/- THE CELL 'sum', in the pinned program and in every row, IS THE sha256 OF THE DUMP (.gsa) THAT YtogikjnfmcfbmaaProg.lean LOADS. Nothing in Lean hashes anything: it is a label: what it is worth is what the hold of that sum in a sandbox is worth. -/
noncomputable def Try.pinned : Pinned := { name := "ytogikjnfmcfbmaa", sum := "5e5290db572e698e0fd7744c8594542d8c708b28c0d0c1291bd7f929e189d34b", checked := Try.checked }
namespace Rows
def none {H : Type} : Left H := { results := [], args := [] }

/-- 'variorumlaw16.MergeApart': WHATEVER THE INPUT: true; the input reads as it did. -/
def mergeApartSpec : ChangeSpec := { name := "mergeApart", fn := fun _ => fun
  | [d] => { results := [.lit (.bool true)], args := [d] }
  | _ => none }
def mergeApartRow : OpenClaim := { program := "ytogikjnfmcfbmaa", sum := "5e5290db572e698e0fd7744c8594542d8c708b28c0d0c1291bd7f929e189d34b", func := "variorum/variorumlaw16.MergeApart", spec := "mergeApart", inPlace := ["slices.overlaps[variorum/api.Journal]"], unfollowed := true, recurses := true, apart := false }
def MergeApartSaid : Prop := mergeApartRow.holds Try.pinned (OpenSpec.ofChange mergeApartSpec)

/-- ITS FALSE NEIGHBOUR: 'it returns false'. Refute it at one input. -/
def mergeApartWrong : ChangeSpec := { name := "mergeApart", fn := fun _ => fun
  | [d] => { results := [.lit (.bool false)], args := [d] }
  | _ => none }
def MergeApartWrongFalsely : Prop := mergeApartRow.holds Try.pinned (OpenSpec.ofChange mergeApartWrong)

/-- 'variorumlaw16.MergeLike': WHATEVER THE INPUT: true; the input reads as it did. -/
def mergeLikeSpec : ChangeSpec := { name := "mergeLike", fn := fun _ => fun
  | [d] => { results := [.lit (.bool true)], args := [d] }
  | _ => none }
def mergeLikeRow : OpenClaim := { program := "ytogikjnfmcfbmaa", sum := "5e5290db572e698e0fd7744c8594542d8c708b28c0d0c1291bd7f929e189d34b", func := "variorum/variorumlaw16.MergeLike", spec := "mergeLike", inPlace := ["slices.overlaps[variorum/api.Journal]"], unfollowed := true, recurses := true, apart := false }
def MergeLikeSaid : Prop := mergeLikeRow.holds Try.pinned (OpenSpec.ofChange mergeLikeSpec)

/-- ITS FALSE NEIGHBOUR: 'it returns false'. Refute it at one input. -/
def mergeLikeWrong : ChangeSpec := { name := "mergeLike", fn := fun _ => fun
  | [d] => { results := [.lit (.bool false)], args := [d] }
  | _ => none }
def MergeLikeWrongFalsely : Prop := mergeLikeRow.holds Try.pinned (OpenSpec.ofChange mergeLikeWrong)

/-- 'variorumlaw15.DeltaApplies': WHATEVER THE INPUT: true; the input reads as it did. -/
def deltaAppliesSpec : ChangeSpec := { name := "deltaApplies", fn := fun _ => fun
  | [d1, d2] => { results := [.lit (.bool true)], args := [d1, d2] }
  | _ => none }
def deltaAppliesRow : OpenClaim := { program := "ytogikjnfmcfbmaa", sum := "5e5290db572e698e0fd7744c8594542d8c708b28c0d0c1291bd7f929e189d34b", func := "variorum/variorumlaw15.DeltaApplies", spec := "deltaApplies", inPlace := ["slices.overlaps[variorum/api.Journal]"], unfollowed := true, recurses := true, apart := false }
def DeltaAppliesSaid : Prop := deltaAppliesRow.holds Try.pinned (OpenSpec.ofChange deltaAppliesSpec)

/-- ITS FALSE NEIGHBOUR: 'it returns false'. Refute it at one input. -/
def deltaAppliesWrong : ChangeSpec := { name := "deltaApplies", fn := fun _ => fun
  | [d1, d2] => { results := [.lit (.bool false)], args := [d1, d2] }
  | _ => none }
def DeltaAppliesWrongFalsely : Prop := deltaAppliesRow.holds Try.pinned (OpenSpec.ofChange deltaAppliesWrong)

/-- 'variorumlaw15.DeltaSteps': WHATEVER THE INPUT: true; the input reads as it did. -/
def deltaStepsSpec : ChangeSpec := { name := "deltaSteps", fn := fun _ => fun
  | [d] => { results := [.lit (.bool true)], args := [d] }
  | _ => none }
def deltaStepsRow : OpenClaim := { program := "ytogikjnfmcfbmaa", sum := "5e5290db572e698e0fd7744c8594542d8c708b28c0d0c1291bd7f929e189d34b", func := "variorum/variorumlaw15.DeltaSteps", spec := "deltaSteps", inPlace := ["slices.overlaps[variorum/api.Journal]"], unfollowed := true, recurses := true, apart := false }
def DeltaStepsSaid : Prop := deltaStepsRow.holds Try.pinned (OpenSpec.ofChange deltaStepsSpec)

/-- ITS FALSE NEIGHBOUR: 'it returns false'. Refute it at one input. -/
def deltaStepsWrong : ChangeSpec := { name := "deltaSteps", fn := fun _ => fun
  | [d] => { results := [.lit (.bool false)], args := [d] }
  | _ => none }
def DeltaStepsWrongFalsely : Prop := deltaStepsRow.holds Try.pinned (OpenSpec.ofChange deltaStepsWrong)

/- THE SECOND FORM. 'bulk': how many values and letters a reading holds, each counted each time it is reached (what is shared counts as often as it is met; a slice's spare places count too). A statement '..UptoSaid' is the law's where the arguments, and the package variables that the reading takes, are together of bulk at most 1048576: NARROWER than '..Said'. Prove '..Said' where nothing that the law and all that it calls make is longer than what came in: it says more and counts as full. Else prove '..UptoSaid'. A law counts once. -/
mutual
def uptoBulk {H : Type} : DataW H → Nat
  | .lit (.string bytes) => bytes.length + 1
  | .lit _ => 1
  | .nil => 1
  | .ptr d => uptoBulk d + 1
  | .slice elems spare => uptoBulkAll elems + uptoBulkAll spare + 1
  | .agg parts => uptoBulkAll parts + 1
  | .iface _ d => uptoBulk d + 1
  | .map entries => uptoBulkEntries entries + 1
  | .held _ => 1
def uptoBulkAll {H : Type} : List (DataW H) → Nat
  | [] => 0
  | d :: r => uptoBulk d + uptoBulkAll r
def uptoBulkEntries {H : Type} : List (Lit × DataW H) → Nat
  | [] => 0
  | x :: r => uptoBulkEntry x + uptoBulkEntries r
def uptoBulkEntry {H : Type} : Lit × DataW H → Nat
  | (.string bytes, d) => bytes.length + uptoBulk d + 1
  | (_, d) => uptoBulk d + 1
 end
def uptoSmall : (H : Type) → List (DataW H) → Bool := fun _ ds => decide (uptoBulkAll ds ≤ 1048576)
def OpenSpec.upto (s : _root_.Go.ChangeSpec) : _root_.Go.OpenSpec := { _root_.Go.OpenSpec.ofChange s with cond := some uptoSmall }

/-- 'variorumlaw16.MergeApart', WHERE WHAT IT READS IS OF BULK AT MOST 1048576: true; the input reads as it did. -/
def mergeApartUptoRow : OpenClaim := { program := "ytogikjnfmcfbmaa", sum := "5e5290db572e698e0fd7744c8594542d8c708b28c0d0c1291bd7f929e189d34b", func := "variorum/variorumlaw16.MergeApart", spec := "mergeApart", inPlace := ["slices.overlaps[variorum/api.Journal]"], unfollowed := true, recurses := true, apart := false, narrowed := true }
def MergeApartUptoSaid : Prop := mergeApartUptoRow.holds Try.pinned (OpenSpec.upto mergeApartSpec)

/-- 'variorumlaw16.MergeLike', WHERE WHAT IT READS IS OF BULK AT MOST 1048576: true; the input reads as it did. -/
def mergeLikeUptoRow : OpenClaim := { program := "ytogikjnfmcfbmaa", sum := "5e5290db572e698e0fd7744c8594542d8c708b28c0d0c1291bd7f929e189d34b", func := "variorum/variorumlaw16.MergeLike", spec := "mergeLike", inPlace := ["slices.overlaps[variorum/api.Journal]"], unfollowed := true, recurses := true, apart := false, narrowed := true }
def MergeLikeUptoSaid : Prop := mergeLikeUptoRow.holds Try.pinned (OpenSpec.upto mergeLikeSpec)

/-- 'variorumlaw15.DeltaApplies', WHERE WHAT IT READS IS OF BULK AT MOST 1048576: true; the input reads as it did. -/
def deltaAppliesUptoRow : OpenClaim := { program := "ytogikjnfmcfbmaa", sum := "5e5290db572e698e0fd7744c8594542d8c708b28c0d0c1291bd7f929e189d34b", func := "variorum/variorumlaw15.DeltaApplies", spec := "deltaApplies", inPlace := ["slices.overlaps[variorum/api.Journal]"], unfollowed := true, recurses := true, apart := false, narrowed := true }
def DeltaAppliesUptoSaid : Prop := deltaAppliesUptoRow.holds Try.pinned (OpenSpec.upto deltaAppliesSpec)

/-- 'variorumlaw15.DeltaSteps', WHERE WHAT IT READS IS OF BULK AT MOST 1048576: true; the input reads as it did. -/
def deltaStepsUptoRow : OpenClaim := { program := "ytogikjnfmcfbmaa", sum := "5e5290db572e698e0fd7744c8594542d8c708b28c0d0c1291bd7f929e189d34b", func := "variorum/variorumlaw15.DeltaSteps", spec := "deltaSteps", inPlace := ["slices.overlaps[variorum/api.Journal]"], unfollowed := true, recurses := true, apart := false, narrowed := true }
def DeltaStepsUptoSaid : Prop := deltaStepsUptoRow.holds Try.pinned (OpenSpec.upto deltaStepsSpec)

end Rows
end Go.Proofs.Ytogikjnfmcfbmaa
