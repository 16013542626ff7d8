/-
  No cell of these rows narrows 'for every input' (looked for: loops, veiled, ifaces, maps, wideKeys, modest, calm, conditions, laid).
  DERIVED. THE GIVEN ROWS OF THIS SEAT. 14 by the template 'for every input the law returns true; each argument reads behind the call as it read before'; 0 by the template 'total and deterministic' (their statements: YthcomffnjmliaaaTotals.lean).
  GIVEN WITH THE SEED: the statements are not yours to turn. If you find one false, say at which input.
  Laid BY PROGRAM, IN A SANDBOX (cutbox-rows.mjs): the forced cells as the released guide's own fill.sh prints them over the translation e85acaff8f966541… (all of the seat's roots in one cut). By AI agents, Wed Nov 11 2026. No macro, syntax, notation, axiom, sorry.
-/
import Derived.Test.YthcomffnjmliaaaChecked
import GoSem.Claim
import GoSem.ClaimJoined
import GoSem.ClaimMapViews
import Derived.JoinedTies
import Derived.KernelRfl
namespace Go.Proofs.Ythcomffnjmliaaa
/- THE CELL 'sum', in the pinned program and in every row, IS THE sha256 OF THE DUMP (.gsa) THAT YthcomffnjmliaaaProg.lean LOADS. Nothing in Lean hashes anything: it is a label: what it is worth is what the hold of that sum in a sandbox is worth. -/
noncomputable def Try.pinned : Pinned := { name := "ythcomffnjmliaaa", sum := "e85acaff8f9665410669495839171ddd3f6fd25c94621d6012a2e6fc38271a56", checked := Try.checked }
namespace Rows
def none {H : Type} : Left H := { results := [], args := [] }

/-- 'variorumlaw5.GatesWays': WHATEVER THE INPUT: true; the input reads as it did. -/
def gatesWaysSpec : ChangeSpec := { name := "gatesWays", fn := fun _ => fun
  | [d1, d2, d3, d4] => { results := [.lit (.bool true)], args := [d1, d2, d3, d4] }
  | _ => none }
def gatesWaysRow : OpenClaim := { program := "ythcomffnjmliaaa", sum := "e85acaff8f9665410669495839171ddd3f6fd25c94621d6012a2e6fc38271a56", func := "variorum/variorumlaw5.GatesWays", spec := "gatesWays", unfollowed := true, recurses := true, plainKeys := false, apart := false }
def GatesWaysSaid : Prop := gatesWaysRow.holds Try.pinned (OpenSpec.ofChange gatesWaysSpec)

/-- ITS FALSE NEIGHBOUR: 'it returns false'. Refute it at one input. -/
def gatesWaysWrong : ChangeSpec := { name := "gatesWays", fn := fun _ => fun
  | [d1, d2, d3, d4] => { results := [.lit (.bool false)], args := [d1, d2, d3, d4] }
  | _ => none }
def GatesWaysWrongFalsely : Prop := gatesWaysRow.holds Try.pinned (OpenSpec.ofChange gatesWaysWrong)

/-- 'variorumlaw23.PaperAgain': WHATEVER THE INPUT: true; the input reads as it did. -/
def paperAgainSpec : ChangeSpec := { name := "paperAgain", fn := fun _ => fun
  | [d1, d2, d3] => { results := [.lit (.bool true)], args := [d1, d2, d3] }
  | _ => none }
def paperAgainRow : OpenClaim := { program := "ythcomffnjmliaaa", sum := "e85acaff8f9665410669495839171ddd3f6fd25c94621d6012a2e6fc38271a56", func := "variorum/variorumlaw23.PaperAgain", spec := "paperAgain", unfollowed := true, recurses := true, plainKeys := false, apart := false }
def PaperAgainSaid : Prop := paperAgainRow.holds Try.pinned (OpenSpec.ofChange paperAgainSpec)

/-- ITS FALSE NEIGHBOUR: 'it returns false'. Refute it at one input. -/
def paperAgainWrong : ChangeSpec := { name := "paperAgain", fn := fun _ => fun
  | [d1, d2, d3] => { results := [.lit (.bool false)], args := [d1, d2, d3] }
  | _ => none }
def PaperAgainWrongFalsely : Prop := paperAgainRow.holds Try.pinned (OpenSpec.ofChange paperAgainWrong)

/-- 'variorumlaw23.PaperPlays': WHATEVER THE INPUT: true; the input reads as it did. -/
def paperPlaysSpec : ChangeSpec := { name := "paperPlays", fn := fun _ => fun
  | [d1, d2, d3, d4, d5, d6] => { results := [.lit (.bool true)], args := [d1, d2, d3, d4, d5, d6] }
  | _ => none }
def paperPlaysRow : OpenClaim := { program := "ythcomffnjmliaaa", sum := "e85acaff8f9665410669495839171ddd3f6fd25c94621d6012a2e6fc38271a56", func := "variorum/variorumlaw23.PaperPlays", spec := "paperPlays", unfollowed := true, recurses := true, plainKeys := false, apart := false }
def PaperPlaysSaid : Prop := paperPlaysRow.holds Try.pinned (OpenSpec.ofChange paperPlaysSpec)

/-- ITS FALSE NEIGHBOUR: 'it returns false'. Refute it at one input. -/
def paperPlaysWrong : ChangeSpec := { name := "paperPlays", fn := fun _ => fun
  | [d1, d2, d3, d4, d5, d6] => { results := [.lit (.bool false)], args := [d1, d2, d3, d4, d5, d6] }
  | _ => none }
def PaperPlaysWrongFalsely : Prop := paperPlaysRow.holds Try.pinned (OpenSpec.ofChange paperPlaysWrong)

/-- 'variorumlaw23.PaperAuthors': WHATEVER THE INPUT: true; the input reads as it did. -/
def paperAuthorsSpec : ChangeSpec := { name := "paperAuthors", fn := fun _ => fun
  | [d] => { results := [.lit (.bool true)], args := [d] }
  | _ => none }
def paperAuthorsRow : OpenClaim := { program := "ythcomffnjmliaaa", sum := "e85acaff8f9665410669495839171ddd3f6fd25c94621d6012a2e6fc38271a56", func := "variorum/variorumlaw23.PaperAuthors", spec := "paperAuthors", unfollowed := true, recurses := true, plainKeys := false, apart := false }
def PaperAuthorsSaid : Prop := paperAuthorsRow.holds Try.pinned (OpenSpec.ofChange paperAuthorsSpec)

/-- ITS FALSE NEIGHBOUR: 'it returns false'. Refute it at one input. -/
def paperAuthorsWrong : ChangeSpec := { name := "paperAuthors", fn := fun _ => fun
  | [d] => { results := [.lit (.bool false)], args := [d] }
  | _ => none }
def PaperAuthorsWrongFalsely : Prop := paperAuthorsRow.holds Try.pinned (OpenSpec.ofChange paperAuthorsWrong)

/-- 'variorumlaw5.GatesApart': WHATEVER THE INPUT: true; the input reads as it did. -/
def gatesApartSpec : ChangeSpec := { name := "gatesApart", fn := fun _ => fun
  | [d1, d2, d3, d4] => { results := [.lit (.bool true)], args := [d1, d2, d3, d4] }
  | _ => none }
def gatesApartRow : OpenClaim := { program := "ythcomffnjmliaaa", sum := "e85acaff8f9665410669495839171ddd3f6fd25c94621d6012a2e6fc38271a56", func := "variorum/variorumlaw5.GatesApart", spec := "gatesApart", unfollowed := true, recurses := true, plainKeys := false, apart := false }
def GatesApartSaid : Prop := gatesApartRow.holds Try.pinned (OpenSpec.ofChange gatesApartSpec)

/-- ITS FALSE NEIGHBOUR: 'it returns false'. Refute it at one input. -/
def gatesApartWrong : ChangeSpec := { name := "gatesApart", fn := fun _ => fun
  | [d1, d2, d3, d4] => { results := [.lit (.bool false)], args := [d1, d2, d3, d4] }
  | _ => none }
def GatesApartWrongFalsely : Prop := gatesApartRow.holds Try.pinned (OpenSpec.ofChange gatesApartWrong)

/-- 'variorumlaw16.MergeApart': WHATEVER THE INPUT: true; the input reads as it did. -/
def mergeApartSpec : ChangeSpec := { name := "mergeApart", fn := fun _ => fun
  | [d] => { results := [.lit (.bool true)], args := [d] }
  | _ => none }
def mergeApartRow : OpenClaim := { program := "ythcomffnjmliaaa", sum := "e85acaff8f9665410669495839171ddd3f6fd25c94621d6012a2e6fc38271a56", func := "variorum/variorumlaw16.MergeApart", spec := "mergeApart", inPlace := ["slices.overlaps[variorum/api.Journal]"], unfollowed := true, recurses := true, plainKeys := false, apart := false }
def MergeApartSaid : Prop := mergeApartRow.holds Try.pinned (OpenSpec.ofChange mergeApartSpec)

/-- ITS FALSE NEIGHBOUR: 'it returns false'. Refute it at one input. -/
def mergeApartWrong : ChangeSpec := { name := "mergeApart", fn := fun _ => fun
  | [d] => { results := [.lit (.bool false)], args := [d] }
  | _ => none }
def MergeApartWrongFalsely : Prop := mergeApartRow.holds Try.pinned (OpenSpec.ofChange mergeApartWrong)

/-- 'variorumlaw16.MergeLike': WHATEVER THE INPUT: true; the input reads as it did. -/
def mergeLikeSpec : ChangeSpec := { name := "mergeLike", fn := fun _ => fun
  | [d] => { results := [.lit (.bool true)], args := [d] }
  | _ => none }
def mergeLikeRow : OpenClaim := { program := "ythcomffnjmliaaa", sum := "e85acaff8f9665410669495839171ddd3f6fd25c94621d6012a2e6fc38271a56", func := "variorum/variorumlaw16.MergeLike", spec := "mergeLike", inPlace := ["slices.overlaps[variorum/api.Journal]"], unfollowed := true, recurses := true, plainKeys := false, apart := false }
def MergeLikeSaid : Prop := mergeLikeRow.holds Try.pinned (OpenSpec.ofChange mergeLikeSpec)

/-- ITS FALSE NEIGHBOUR: 'it returns false'. Refute it at one input. -/
def mergeLikeWrong : ChangeSpec := { name := "mergeLike", fn := fun _ => fun
  | [d] => { results := [.lit (.bool false)], args := [d] }
  | _ => none }
def MergeLikeWrongFalsely : Prop := mergeLikeRow.holds Try.pinned (OpenSpec.ofChange mergeLikeWrong)

/-- 'variorumlaw16.MergeKinds': WHATEVER THE INPUT: true; the input reads as it did. -/
def mergeKindsSpec : ChangeSpec := { name := "mergeKinds", fn := fun _ => fun
  | [d1, d2] => { results := [.lit (.bool true)], args := [d1, d2] }
  | _ => none }
def mergeKindsRow : OpenClaim := { program := "ythcomffnjmliaaa", sum := "e85acaff8f9665410669495839171ddd3f6fd25c94621d6012a2e6fc38271a56", func := "variorum/variorumlaw16.MergeKinds", spec := "mergeKinds", inPlace := ["slices.overlaps[variorum/api.Journal]"], unfollowed := true, recurses := true, plainKeys := false, apart := false }
def MergeKindsSaid : Prop := mergeKindsRow.holds Try.pinned (OpenSpec.ofChange mergeKindsSpec)

/-- ITS FALSE NEIGHBOUR: 'it returns false'. Refute it at one input. -/
def mergeKindsWrong : ChangeSpec := { name := "mergeKinds", fn := fun _ => fun
  | [d1, d2] => { results := [.lit (.bool false)], args := [d1, d2] }
  | _ => none }
def MergeKindsWrongFalsely : Prop := mergeKindsRow.holds Try.pinned (OpenSpec.ofChange mergeKindsWrong)

/-- 'variorumlaw10.TrialVoid': WHATEVER THE INPUT: true; the input reads as it did. -/
def trialVoidSpec : ChangeSpec := { name := "trialVoid", fn := fun _ => fun
  | [d1, d2, d3, d4] => { results := [.lit (.bool true)], args := [d1, d2, d3, d4] }
  | _ => none }
def trialVoidRow : OpenClaim := { program := "ythcomffnjmliaaa", sum := "e85acaff8f9665410669495839171ddd3f6fd25c94621d6012a2e6fc38271a56", func := "variorum/variorumlaw10.TrialVoid", spec := "trialVoid", inPlace := ["slices.overlaps[variorum/api.Journal]"], unfollowed := true, recurses := true, plainKeys := false, apart := false }
def TrialVoidSaid : Prop := trialVoidRow.holds Try.pinned (OpenSpec.ofChange trialVoidSpec)

/-- ITS FALSE NEIGHBOUR: 'it returns false'. Refute it at one input. -/
def trialVoidWrong : ChangeSpec := { name := "trialVoid", fn := fun _ => fun
  | [d1, d2, d3, d4] => { results := [.lit (.bool false)], args := [d1, d2, d3, d4] }
  | _ => none }
def TrialVoidWrongFalsely : Prop := trialVoidRow.holds Try.pinned (OpenSpec.ofChange trialVoidWrong)

/-- 'variorumlaw10.TrialPlus': WHATEVER THE INPUT: true; the input reads as it did. -/
def trialPlusSpec : ChangeSpec := { name := "trialPlus", fn := fun _ => fun
  | [d1, d2] => { results := [.lit (.bool true)], args := [d1, d2] }
  | _ => none }
def trialPlusRow : OpenClaim := { program := "ythcomffnjmliaaa", sum := "e85acaff8f9665410669495839171ddd3f6fd25c94621d6012a2e6fc38271a56", func := "variorum/variorumlaw10.TrialPlus", spec := "trialPlus", inPlace := ["slices.overlaps[variorum/api.Journal]"], unfollowed := true, recurses := true, plainKeys := false, apart := false }
def TrialPlusSaid : Prop := trialPlusRow.holds Try.pinned (OpenSpec.ofChange trialPlusSpec)

/-- ITS FALSE NEIGHBOUR: 'it returns false'. Refute it at one input. -/
def trialPlusWrong : ChangeSpec := { name := "trialPlus", fn := fun _ => fun
  | [d1, d2] => { results := [.lit (.bool false)], args := [d1, d2] }
  | _ => none }
def TrialPlusWrongFalsely : Prop := trialPlusRow.holds Try.pinned (OpenSpec.ofChange trialPlusWrong)

/-- 'variorumlaw10.TrialParts': WHATEVER THE INPUT: true; the input reads as it did. -/
def trialPartsSpec : ChangeSpec := { name := "trialParts", fn := fun _ => fun
  | [d1, d2, d3, d4, d5] => { results := [.lit (.bool true)], args := [d1, d2, d3, d4, d5] }
  | _ => none }
def trialPartsRow : OpenClaim := { program := "ythcomffnjmliaaa", sum := "e85acaff8f9665410669495839171ddd3f6fd25c94621d6012a2e6fc38271a56", func := "variorum/variorumlaw10.TrialParts", spec := "trialParts", inPlace := ["slices.overlaps[variorum/api.Journal]"], unfollowed := true, recurses := true, plainKeys := false, apart := false }
def TrialPartsSaid : Prop := trialPartsRow.holds Try.pinned (OpenSpec.ofChange trialPartsSpec)

/-- ITS FALSE NEIGHBOUR: 'it returns false'. Refute it at one input. -/
def trialPartsWrong : ChangeSpec := { name := "trialParts", fn := fun _ => fun
  | [d1, d2, d3, d4, d5] => { results := [.lit (.bool false)], args := [d1, d2, d3, d4, d5] }
  | _ => none }
def TrialPartsWrongFalsely : Prop := trialPartsRow.holds Try.pinned (OpenSpec.ofChange trialPartsWrong)

/-- 'variorumlaw10.TrialPicks': WHATEVER THE INPUT: true; the input reads as it did. -/
def trialPicksSpec : ChangeSpec := { name := "trialPicks", fn := fun _ => fun
  | [d1, d2, d3] => { results := [.lit (.bool true)], args := [d1, d2, d3] }
  | _ => none }
def trialPicksRow : OpenClaim := { program := "ythcomffnjmliaaa", sum := "e85acaff8f9665410669495839171ddd3f6fd25c94621d6012a2e6fc38271a56", func := "variorum/variorumlaw10.TrialPicks", spec := "trialPicks", inPlace := ["slices.overlaps[variorum/api.Journal]"], unfollowed := true, recurses := true, plainKeys := false, apart := false }
def TrialPicksSaid : Prop := trialPicksRow.holds Try.pinned (OpenSpec.ofChange trialPicksSpec)

/-- ITS FALSE NEIGHBOUR: 'it returns false'. Refute it at one input. -/
def trialPicksWrong : ChangeSpec := { name := "trialPicks", fn := fun _ => fun
  | [d1, d2, d3] => { results := [.lit (.bool false)], args := [d1, d2, d3] }
  | _ => none }
def TrialPicksWrongFalsely : Prop := trialPicksRow.holds Try.pinned (OpenSpec.ofChange trialPicksWrong)

/-- 'variorumlaw15.DeltaApplies': WHATEVER THE INPUT: true; the input reads as it did. -/
def deltaAppliesSpec : ChangeSpec := { name := "deltaApplies", fn := fun _ => fun
  | [d1, d2] => { results := [.lit (.bool true)], args := [d1, d2] }
  | _ => none }
def deltaAppliesRow : OpenClaim := { program := "ythcomffnjmliaaa", sum := "e85acaff8f9665410669495839171ddd3f6fd25c94621d6012a2e6fc38271a56", func := "variorum/variorumlaw15.DeltaApplies", spec := "deltaApplies", inPlace := ["slices.overlaps[variorum/api.Journal]"], unfollowed := true, recurses := true, plainKeys := false, apart := false }
def DeltaAppliesSaid : Prop := deltaAppliesRow.holds Try.pinned (OpenSpec.ofChange deltaAppliesSpec)

/-- ITS FALSE NEIGHBOUR: 'it returns false'. Refute it at one input. -/
def deltaAppliesWrong : ChangeSpec := { name := "deltaApplies", fn := fun _ => fun
  | [d1, d2] => { results := [.lit (.bool false)], args := [d1, d2] }
  | _ => none }
def DeltaAppliesWrongFalsely : Prop := deltaAppliesRow.holds Try.pinned (OpenSpec.ofChange deltaAppliesWrong)

/-- 'variorumlaw15.DeltaSteps': WHATEVER THE INPUT: true; the input reads as it did. -/
def deltaStepsSpec : ChangeSpec := { name := "deltaSteps", fn := fun _ => fun
  | [d] => { results := [.lit (.bool true)], args := [d] }
  | _ => none }
def deltaStepsRow : OpenClaim := { program := "ythcomffnjmliaaa", sum := "e85acaff8f9665410669495839171ddd3f6fd25c94621d6012a2e6fc38271a56", func := "variorum/variorumlaw15.DeltaSteps", spec := "deltaSteps", inPlace := ["slices.overlaps[variorum/api.Journal]"], unfollowed := true, recurses := true, plainKeys := false, apart := false }
def DeltaStepsSaid : Prop := deltaStepsRow.holds Try.pinned (OpenSpec.ofChange deltaStepsSpec)

/-- ITS FALSE NEIGHBOUR: 'it returns false'. Refute it at one input. -/
def deltaStepsWrong : ChangeSpec := { name := "deltaSteps", fn := fun _ => fun
  | [d] => { results := [.lit (.bool false)], args := [d] }
  | _ => none }
def DeltaStepsWrongFalsely : Prop := deltaStepsRow.holds Try.pinned (OpenSpec.ofChange deltaStepsWrong)

/- THE SECOND FORM. 'bulk': how many values and letters a reading holds, each counted each time it is reached (what is shared counts as often as it is met; a slice's spare places count too). A statement '..UptoSaid' is the law's where the arguments, and the package variables that the reading takes, are together of bulk at most 1048576: NARROWER than '..Said'. Prove '..Said' where nothing that the law and all that it calls make is longer than what came in: it says more and counts as full. Else prove '..UptoSaid'. A law counts once. -/
mutual
def uptoBulk {H : Type} : DataW H → Nat
  | .lit (.string bytes) => bytes.length + 1
  | .lit _ => 1
  | .nil => 1
  | .ptr d => uptoBulk d + 1
  | .slice elems spare => uptoBulkAll elems + uptoBulkAll spare + 1
  | .agg parts => uptoBulkAll parts + 1
  | .iface _ d => uptoBulk d + 1
  | .map entries => uptoBulkEntries entries + 1
  | .held _ => 1
def uptoBulkAll {H : Type} : List (DataW H) → Nat
  | [] => 0
  | d :: r => uptoBulk d + uptoBulkAll r
def uptoBulkEntries {H : Type} : List (Lit × DataW H) → Nat
  | [] => 0
  | x :: r => uptoBulkEntry x + uptoBulkEntries r
def uptoBulkEntry {H : Type} : Lit × DataW H → Nat
  | (.string bytes, d) => bytes.length + uptoBulk d + 1
  | (_, d) => uptoBulk d + 1
 end
def uptoSmall : (H : Type) → List (DataW H) → Bool := fun _ ds => decide (uptoBulkAll ds ≤ 1048576)
def OpenSpec.upto (s : _root_.Go.ChangeSpec) : _root_.Go.OpenSpec := { _root_.Go.OpenSpec.ofChange s with cond := some uptoSmall }

/-- 'variorumlaw5.GatesWays', WHERE WHAT IT READS IS OF BULK AT MOST 1048576: true; the input reads as it did. -/
def gatesWaysUptoRow : OpenClaim := { program := "ythcomffnjmliaaa", sum := "e85acaff8f9665410669495839171ddd3f6fd25c94621d6012a2e6fc38271a56", func := "variorum/variorumlaw5.GatesWays", spec := "gatesWays", unfollowed := true, recurses := true, plainKeys := false, apart := false, narrowed := true }
def GatesWaysUptoSaid : Prop := gatesWaysUptoRow.holds Try.pinned (OpenSpec.upto gatesWaysSpec)

/-- 'variorumlaw23.PaperAgain', WHERE WHAT IT READS IS OF BULK AT MOST 1048576: true; the input reads as it did. -/
def paperAgainUptoRow : OpenClaim := { program := "ythcomffnjmliaaa", sum := "e85acaff8f9665410669495839171ddd3f6fd25c94621d6012a2e6fc38271a56", func := "variorum/variorumlaw23.PaperAgain", spec := "paperAgain", unfollowed := true, recurses := true, plainKeys := false, apart := false, narrowed := true }
def PaperAgainUptoSaid : Prop := paperAgainUptoRow.holds Try.pinned (OpenSpec.upto paperAgainSpec)

/-- 'variorumlaw23.PaperPlays', WHERE WHAT IT READS IS OF BULK AT MOST 1048576: true; the input reads as it did. -/
def paperPlaysUptoRow : OpenClaim := { program := "ythcomffnjmliaaa", sum := "e85acaff8f9665410669495839171ddd3f6fd25c94621d6012a2e6fc38271a56", func := "variorum/variorumlaw23.PaperPlays", spec := "paperPlays", unfollowed := true, recurses := true, plainKeys := false, apart := false, narrowed := true }
def PaperPlaysUptoSaid : Prop := paperPlaysUptoRow.holds Try.pinned (OpenSpec.upto paperPlaysSpec)

/-- 'variorumlaw23.PaperAuthors', WHERE WHAT IT READS IS OF BULK AT MOST 1048576: true; the input reads as it did. -/
def paperAuthorsUptoRow : OpenClaim := { program := "ythcomffnjmliaaa", sum := "e85acaff8f9665410669495839171ddd3f6fd25c94621d6012a2e6fc38271a56", func := "variorum/variorumlaw23.PaperAuthors", spec := "paperAuthors", unfollowed := true, recurses := true, plainKeys := false, apart := false, narrowed := true }
def PaperAuthorsUptoSaid : Prop := paperAuthorsUptoRow.holds Try.pinned (OpenSpec.upto paperAuthorsSpec)

/-- 'variorumlaw5.GatesApart', WHERE WHAT IT READS IS OF BULK AT MOST 1048576: true; the input reads as it did. -/
def gatesApartUptoRow : OpenClaim := { program := "ythcomffnjmliaaa", sum := "e85acaff8f9665410669495839171ddd3f6fd25c94621d6012a2e6fc38271a56", func := "variorum/variorumlaw5.GatesApart", spec := "gatesApart", unfollowed := true, recurses := true, plainKeys := false, apart := false, narrowed := true }
def GatesApartUptoSaid : Prop := gatesApartUptoRow.holds Try.pinned (OpenSpec.upto gatesApartSpec)

/-- 'variorumlaw16.MergeApart', WHERE WHAT IT READS IS OF BULK AT MOST 1048576: true; the input reads as it did. -/
def mergeApartUptoRow : OpenClaim := { program := "ythcomffnjmliaaa", sum := "e85acaff8f9665410669495839171ddd3f6fd25c94621d6012a2e6fc38271a56", func := "variorum/variorumlaw16.MergeApart", spec := "mergeApart", inPlace := ["slices.overlaps[variorum/api.Journal]"], unfollowed := true, recurses := true, plainKeys := false, apart := false, narrowed := true }
def MergeApartUptoSaid : Prop := mergeApartUptoRow.holds Try.pinned (OpenSpec.upto mergeApartSpec)

/-- 'variorumlaw16.MergeLike', WHERE WHAT IT READS IS OF BULK AT MOST 1048576: true; the input reads as it did. -/
def mergeLikeUptoRow : OpenClaim := { program := "ythcomffnjmliaaa", sum := "e85acaff8f9665410669495839171ddd3f6fd25c94621d6012a2e6fc38271a56", func := "variorum/variorumlaw16.MergeLike", spec := "mergeLike", inPlace := ["slices.overlaps[variorum/api.Journal]"], unfollowed := true, recurses := true, plainKeys := false, apart := false, narrowed := true }
def MergeLikeUptoSaid : Prop := mergeLikeUptoRow.holds Try.pinned (OpenSpec.upto mergeLikeSpec)

/-- 'variorumlaw16.MergeKinds', WHERE WHAT IT READS IS OF BULK AT MOST 1048576: true; the input reads as it did. -/
def mergeKindsUptoRow : OpenClaim := { program := "ythcomffnjmliaaa", sum := "e85acaff8f9665410669495839171ddd3f6fd25c94621d6012a2e6fc38271a56", func := "variorum/variorumlaw16.MergeKinds", spec := "mergeKinds", inPlace := ["slices.overlaps[variorum/api.Journal]"], unfollowed := true, recurses := true, plainKeys := false, apart := false, narrowed := true }
def MergeKindsUptoSaid : Prop := mergeKindsUptoRow.holds Try.pinned (OpenSpec.upto mergeKindsSpec)

/-- 'variorumlaw10.TrialVoid', WHERE WHAT IT READS IS OF BULK AT MOST 1048576: true; the input reads as it did. -/
def trialVoidUptoRow : OpenClaim := { program := "ythcomffnjmliaaa", sum := "e85acaff8f9665410669495839171ddd3f6fd25c94621d6012a2e6fc38271a56", func := "variorum/variorumlaw10.TrialVoid", spec := "trialVoid", inPlace := ["slices.overlaps[variorum/api.Journal]"], unfollowed := true, recurses := true, plainKeys := false, apart := false, narrowed := true }
def TrialVoidUptoSaid : Prop := trialVoidUptoRow.holds Try.pinned (OpenSpec.upto trialVoidSpec)

/-- 'variorumlaw10.TrialPlus', WHERE WHAT IT READS IS OF BULK AT MOST 1048576: true; the input reads as it did. -/
def trialPlusUptoRow : OpenClaim := { program := "ythcomffnjmliaaa", sum := "e85acaff8f9665410669495839171ddd3f6fd25c94621d6012a2e6fc38271a56", func := "variorum/variorumlaw10.TrialPlus", spec := "trialPlus", inPlace := ["slices.overlaps[variorum/api.Journal]"], unfollowed := true, recurses := true, plainKeys := false, apart := false, narrowed := true }
def TrialPlusUptoSaid : Prop := trialPlusUptoRow.holds Try.pinned (OpenSpec.upto trialPlusSpec)

/-- 'variorumlaw10.TrialParts', WHERE WHAT IT READS IS OF BULK AT MOST 1048576: true; the input reads as it did. -/
def trialPartsUptoRow : OpenClaim := { program := "ythcomffnjmliaaa", sum := "e85acaff8f9665410669495839171ddd3f6fd25c94621d6012a2e6fc38271a56", func := "variorum/variorumlaw10.TrialParts", spec := "trialParts", inPlace := ["slices.overlaps[variorum/api.Journal]"], unfollowed := true, recurses := true, plainKeys := false, apart := false, narrowed := true }
def TrialPartsUptoSaid : Prop := trialPartsUptoRow.holds Try.pinned (OpenSpec.upto trialPartsSpec)

/-- 'variorumlaw10.TrialPicks', WHERE WHAT IT READS IS OF BULK AT MOST 1048576: true; the input reads as it did. -/
def trialPicksUptoRow : OpenClaim := { program := "ythcomffnjmliaaa", sum := "e85acaff8f9665410669495839171ddd3f6fd25c94621d6012a2e6fc38271a56", func := "variorum/variorumlaw10.TrialPicks", spec := "trialPicks", inPlace := ["slices.overlaps[variorum/api.Journal]"], unfollowed := true, recurses := true, plainKeys := false, apart := false, narrowed := true }
def TrialPicksUptoSaid : Prop := trialPicksUptoRow.holds Try.pinned (OpenSpec.upto trialPicksSpec)

/-- 'variorumlaw15.DeltaApplies', WHERE WHAT IT READS IS OF BULK AT MOST 1048576: true; the input reads as it did. -/
def deltaAppliesUptoRow : OpenClaim := { program := "ythcomffnjmliaaa", sum := "e85acaff8f9665410669495839171ddd3f6fd25c94621d6012a2e6fc38271a56", func := "variorum/variorumlaw15.DeltaApplies", spec := "deltaApplies", inPlace := ["slices.overlaps[variorum/api.Journal]"], unfollowed := true, recurses := true, plainKeys := false, apart := false, narrowed := true }
def DeltaAppliesUptoSaid : Prop := deltaAppliesUptoRow.holds Try.pinned (OpenSpec.upto deltaAppliesSpec)

/-- 'variorumlaw15.DeltaSteps', WHERE WHAT IT READS IS OF BULK AT MOST 1048576: true; the input reads as it did. -/
def deltaStepsUptoRow : OpenClaim := { program := "ythcomffnjmliaaa", sum := "e85acaff8f9665410669495839171ddd3f6fd25c94621d6012a2e6fc38271a56", func := "variorum/variorumlaw15.DeltaSteps", spec := "deltaSteps", inPlace := ["slices.overlaps[variorum/api.Journal]"], unfollowed := true, recurses := true, plainKeys := false, apart := false, narrowed := true }
def DeltaStepsUptoSaid : Prop := deltaStepsUptoRow.holds Try.pinned (OpenSpec.upto deltaStepsSpec)

end Rows
end Go.Proofs.Ythcomffnjmliaaa
