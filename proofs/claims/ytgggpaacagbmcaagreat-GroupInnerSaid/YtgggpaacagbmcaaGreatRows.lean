/-
  No cell of these rows narrows 'for every input' (looked for: loops, veiled, ifaces, maps, wideKeys, modest, calm, conditions, laid).
  DERIVED. THE GIVEN ROWS OF THIS SEAT. 3 by the template 'for every input the law returns true; each argument reads behind the call as it read before'; 0 by the template 'total and deterministic' (their statements: YtgggpaacagbmcaaGreatTotals.lean).
  GIVEN WITH THE SEED: the statements are not yours to turn. If you find one false, say at which input.
  Laid BY PROGRAM, IN A SANDBOX (cutbox-rows.mjs): the forced cells as the released guide's own fill.sh prints them over the translation 35cb468dd4219299… (all of the seat's roots in one cut). By AI agents, Wed Nov 11 2026. No macro, syntax, notation, axiom, sorry.
-/
import Derived.Test.YtgggpaacagbmcaaGreatChecked
import GoSem.Claim
import GoSem.ClaimJoined
import GoSem.ClaimMapViews
import Derived.JoinedTies
import Derived.KernelRfl
namespace Go.Proofs.YtgggpaacagbmcaaGreat
/- THE CELL 'sum', in the pinned program and in every row, IS THE sha256 OF THE DUMP (.gsa) THAT YtgggpaacagbmcaaGreatProg.lean LOADS. Nothing in Lean hashes anything: it is a label: what it is worth is what the hold of that sum in a sandbox is worth. -/
noncomputable def Tryz.pinned : Pinned := { name := "ytgggpaacagbmcaagreat", sum := "35cb468dd42192992ef05705a151c4919bda4ffbc69c78e0b468d5dfb2653ff1", checked := Tryz.checked }
namespace Rows
def none {H : Type} : Left H := { results := [], args := [] }

/-- 'variorumlaw14.GroupTells': WHATEVER THE INPUT: true; the input reads as it did. -/
def groupTellsSpec : ChangeSpec := { name := "groupTells", fn := fun _ => fun
  | [d1, d2, d3, d4] => { results := [.lit (.bool true)], args := [d1, d2, d3, d4] }
  | _ => none }
def groupTellsRow : OpenClaim := { program := "ytgggpaacagbmcaagreat", sum := "35cb468dd42192992ef05705a151c4919bda4ffbc69c78e0b468d5dfb2653ff1", func := "variorum/variorumlaw14.GroupTells", spec := "groupTells", inPlace := ["slices.overlaps[variorum/api.Journal]"], unfollowed := true, recurses := true, named := ["math/bits.divideError", "math/bits.overflowError"], plainKeys := false, apart := false }
def GroupTellsSaid : Prop := groupTellsRow.holds Tryz.pinned (OpenSpec.ofChange groupTellsSpec)

/-- ITS FALSE NEIGHBOUR: 'it returns false'. Refute it at one input. -/
def groupTellsWrong : ChangeSpec := { name := "groupTells", fn := fun _ => fun
  | [d1, d2, d3, d4] => { results := [.lit (.bool false)], args := [d1, d2, d3, d4] }
  | _ => none }
def GroupTellsWrongFalsely : Prop := groupTellsRow.holds Tryz.pinned (OpenSpec.ofChange groupTellsWrong)

/-- 'variorumlaw14.GroupInner': WHATEVER THE INPUT: true; the input reads as it did. -/
def groupInnerSpec : ChangeSpec := { name := "groupInner", fn := fun _ => fun
  | [d1, d2, d3] => { results := [.lit (.bool true)], args := [d1, d2, d3] }
  | _ => none }
def groupInnerRow : OpenClaim := { program := "ytgggpaacagbmcaagreat", sum := "35cb468dd42192992ef05705a151c4919bda4ffbc69c78e0b468d5dfb2653ff1", func := "variorum/variorumlaw14.GroupInner", spec := "groupInner", inPlace := ["slices.overlaps[variorum/api.Journal]"], unfollowed := true, recurses := true, named := ["math/bits.divideError", "math/bits.overflowError"], plainKeys := false, apart := false }
def GroupInnerSaid : Prop := groupInnerRow.holds Tryz.pinned (OpenSpec.ofChange groupInnerSpec)

/-- ITS FALSE NEIGHBOUR: 'it returns false'. Refute it at one input. -/
def groupInnerWrong : ChangeSpec := { name := "groupInner", fn := fun _ => fun
  | [d1, d2, d3] => { results := [.lit (.bool false)], args := [d1, d2, d3] }
  | _ => none }
def GroupInnerWrongFalsely : Prop := groupInnerRow.holds Tryz.pinned (OpenSpec.ofChange groupInnerWrong)

/-- 'variorumlaw14.GroupPairs': WHATEVER THE INPUT: true; the input reads as it did. -/
def groupPairsSpec : ChangeSpec := { name := "groupPairs", fn := fun _ => fun
  | [d1, d2] => { results := [.lit (.bool true)], args := [d1, d2] }
  | _ => none }
def groupPairsRow : OpenClaim := { program := "ytgggpaacagbmcaagreat", sum := "35cb468dd42192992ef05705a151c4919bda4ffbc69c78e0b468d5dfb2653ff1", func := "variorum/variorumlaw14.GroupPairs", spec := "groupPairs", inPlace := ["slices.overlaps[variorum/api.Journal]"], unfollowed := true, recurses := true, named := ["math/bits.divideError", "math/bits.overflowError"], plainKeys := false, apart := false }
def GroupPairsSaid : Prop := groupPairsRow.holds Tryz.pinned (OpenSpec.ofChange groupPairsSpec)

/-- ITS FALSE NEIGHBOUR: 'it returns false'. Refute it at one input. -/
def groupPairsWrong : ChangeSpec := { name := "groupPairs", fn := fun _ => fun
  | [d1, d2] => { results := [.lit (.bool false)], args := [d1, d2] }
  | _ => none }
def GroupPairsWrongFalsely : Prop := groupPairsRow.holds Tryz.pinned (OpenSpec.ofChange groupPairsWrong)

/- THE SECOND FORM. 'bulk': how many values and letters a reading holds, each counted each time it is reached (what is shared counts as often as it is met; a slice's spare places count too). A statement '..UptoSaid' is the law's where the arguments, and the package variables that the reading takes, are together of bulk at most 1048576: NARROWER than '..Said'. Prove '..Said' where nothing that the law and all that it calls make is longer than what came in: it says more and counts as full. Else prove '..UptoSaid'. A law counts once. -/
mutual
def uptoBulk {H : Type} : DataW H → Nat
  | .lit (.string bytes) => bytes.length + 1
  | .lit _ => 1
  | .nil => 1
  | .ptr d => uptoBulk d + 1
  | .slice elems spare => uptoBulkAll elems + uptoBulkAll spare + 1
  | .agg parts => uptoBulkAll parts + 1
  | .iface _ d => uptoBulk d + 1
  | .map entries => uptoBulkEntries entries + 1
  | .held _ => 1
def uptoBulkAll {H : Type} : List (DataW H) → Nat
  | [] => 0
  | d :: r => uptoBulk d + uptoBulkAll r
def uptoBulkEntries {H : Type} : List (Lit × DataW H) → Nat
  | [] => 0
  | x :: r => uptoBulkEntry x + uptoBulkEntries r
def uptoBulkEntry {H : Type} : Lit × DataW H → Nat
  | (.string bytes, d) => bytes.length + uptoBulk d + 1
  | (_, d) => uptoBulk d + 1
 end
def uptoSmall : (H : Type) → List (DataW H) → Bool := fun _ ds => decide (uptoBulkAll ds ≤ 1048576)
def OpenSpec.upto (s : _root_.Go.ChangeSpec) : _root_.Go.OpenSpec := { _root_.Go.OpenSpec.ofChange s with cond := some uptoSmall }

/-- 'variorumlaw14.GroupTells', WHERE WHAT IT READS IS OF BULK AT MOST 1048576: true; the input reads as it did. -/
def groupTellsUptoRow : OpenClaim := { program := "ytgggpaacagbmcaagreat", sum := "35cb468dd42192992ef05705a151c4919bda4ffbc69c78e0b468d5dfb2653ff1", func := "variorum/variorumlaw14.GroupTells", spec := "groupTells", inPlace := ["slices.overlaps[variorum/api.Journal]"], unfollowed := true, recurses := true, named := ["math/bits.divideError", "math/bits.overflowError"], plainKeys := false, apart := false, narrowed := true }
def GroupTellsUptoSaid : Prop := groupTellsUptoRow.holds Tryz.pinned (OpenSpec.upto groupTellsSpec)

/-- 'variorumlaw14.GroupInner', WHERE WHAT IT READS IS OF BULK AT MOST 1048576: true; the input reads as it did. -/
def groupInnerUptoRow : OpenClaim := { program := "ytgggpaacagbmcaagreat", sum := "35cb468dd42192992ef05705a151c4919bda4ffbc69c78e0b468d5dfb2653ff1", func := "variorum/variorumlaw14.GroupInner", spec := "groupInner", inPlace := ["slices.overlaps[variorum/api.Journal]"], unfollowed := true, recurses := true, named := ["math/bits.divideError", "math/bits.overflowError"], plainKeys := false, apart := false, narrowed := true }
def GroupInnerUptoSaid : Prop := groupInnerUptoRow.holds Tryz.pinned (OpenSpec.upto groupInnerSpec)

/-- 'variorumlaw14.GroupPairs', WHERE WHAT IT READS IS OF BULK AT MOST 1048576: true; the input reads as it did. -/
def groupPairsUptoRow : OpenClaim := { program := "ytgggpaacagbmcaagreat", sum := "35cb468dd42192992ef05705a151c4919bda4ffbc69c78e0b468d5dfb2653ff1", func := "variorum/variorumlaw14.GroupPairs", spec := "groupPairs", inPlace := ["slices.overlaps[variorum/api.Journal]"], unfollowed := true, recurses := true, named := ["math/bits.divideError", "math/bits.overflowError"], plainKeys := false, apart := false, narrowed := true }
def GroupPairsUptoSaid : Prop := groupPairsUptoRow.holds Tryz.pinned (OpenSpec.upto groupPairsSpec)

end Rows
end Go.Proofs.YtgggpaacagbmcaaGreat
