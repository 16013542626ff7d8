/-
  No cell of these rows narrows 'for every input' (looked for: loops, veiled, ifaces, maps, wideKeys, modest, calm, conditions, laid).
  DERIVED. THE GIVEN ROWS OF THIS SEAT. 3 by the template 'for every input the law returns true; each argument reads behind the call as it read before'; 0 by the template 'total and deterministic' (their statements: YtbgkladgeijgdaaGreatTotals.lean).
  GIVEN WITH THE SEED: the statements are not yours to turn. If you find one false, say at which input.
  Laid BY PROGRAM, IN A SANDBOX (cutbox-rows.mjs): the forced cells as the released guide's own fill.sh prints them over the translation c747b6202a2d655f… (all of the seat's roots in one cut). By AI agents, Wed Nov 11 2026. No macro, syntax, notation, axiom, sorry.
-/
import Derived.Test.YtbgkladgeijgdaaGreatChecked
import GoSem.Claim
import GoSem.ClaimJoined
import GoSem.ClaimMapViews
import Derived.JoinedTies
import Derived.KernelRfl
namespace Go.Proofs.YtbgkladgeijgdaaGreat
/- THE CELL 'sum', in the pinned program and in every row, IS THE sha256 OF THE DUMP (.gsa) THAT YtbgkladgeijgdaaGreatProg.lean LOADS. Nothing in Lean hashes anything: it is a label: what it is worth is what the hold of that sum in a sandbox is worth. -/
noncomputable def Tryz.pinned : Pinned := { name := "ytbgkladgeijgdaagreat", sum := "c747b6202a2d655f8f8027ad299dfca285504a132523f3ca728f7b2c18e3b91b", checked := Tryz.checked }
namespace Rows
def none {H : Type} : Left H := { results := [], args := [] }

/-- 'variorumlaw14.GroupTells': WHATEVER THE INPUT: true; the input reads as it did. -/
def groupTellsSpec : ChangeSpec := { name := "groupTells", fn := fun _ => fun
  | [d1, d2, d3, d4] => { results := [.lit (.bool true)], args := [d1, d2, d3, d4] }
  | _ => none }
def groupTellsRow : OpenClaim := { program := "ytbgkladgeijgdaagreat", sum := "c747b6202a2d655f8f8027ad299dfca285504a132523f3ca728f7b2c18e3b91b", func := "variorum/variorumlaw14.GroupTells", spec := "groupTells", inPlace := ["slices.overlaps[variorum/api.Journal]"], unfollowed := true, recurses := true, named := ["math/bits.divideError", "math/bits.overflowError"], apart := false }
def GroupTellsSaid : Prop := groupTellsRow.holds Tryz.pinned (OpenSpec.ofChange groupTellsSpec)

/-- ITS FALSE NEIGHBOUR: 'it returns false'. Refute it at one input. -/
def groupTellsWrong : ChangeSpec := { name := "groupTells", fn := fun _ => fun
  | [d1, d2, d3, d4] => { results := [.lit (.bool false)], args := [d1, d2, d3, d4] }
  | _ => none }
def GroupTellsWrongFalsely : Prop := groupTellsRow.holds Tryz.pinned (OpenSpec.ofChange groupTellsWrong)

/-- 'variorumlaw14.GroupOne': WHATEVER THE INPUT: true; the input reads as it did. -/
def groupOneSpec : ChangeSpec := { name := "groupOne", fn := fun _ => fun
  | [d1, d2, d3, d4] => { results := [.lit (.bool true)], args := [d1, d2, d3, d4] }
  | _ => none }
def groupOneRow : OpenClaim := { program := "ytbgkladgeijgdaagreat", sum := "c747b6202a2d655f8f8027ad299dfca285504a132523f3ca728f7b2c18e3b91b", func := "variorum/variorumlaw14.GroupOne", spec := "groupOne", inPlace := ["slices.overlaps[variorum/api.Journal]"], unfollowed := true, recurses := true, named := ["math/bits.divideError", "math/bits.overflowError"], apart := false }
def GroupOneSaid : Prop := groupOneRow.holds Tryz.pinned (OpenSpec.ofChange groupOneSpec)

/-- ITS FALSE NEIGHBOUR: 'it returns false'. Refute it at one input. -/
def groupOneWrong : ChangeSpec := { name := "groupOne", fn := fun _ => fun
  | [d1, d2, d3, d4] => { results := [.lit (.bool false)], args := [d1, d2, d3, d4] }
  | _ => none }
def GroupOneWrongFalsely : Prop := groupOneRow.holds Tryz.pinned (OpenSpec.ofChange groupOneWrong)

/-- 'variorumlaw14.GroupShares': WHATEVER THE INPUT: true; the input reads as it did. -/
def groupSharesSpec : ChangeSpec := { name := "groupShares", fn := fun _ => fun
  | [d1, d2, d3, d4, d5, d6] => { results := [.lit (.bool true)], args := [d1, d2, d3, d4, d5, d6] }
  | _ => none }
def groupSharesRow : OpenClaim := { program := "ytbgkladgeijgdaagreat", sum := "c747b6202a2d655f8f8027ad299dfca285504a132523f3ca728f7b2c18e3b91b", func := "variorum/variorumlaw14.GroupShares", spec := "groupShares", inPlace := ["slices.overlaps[variorum/api.Journal]"], unfollowed := true, recurses := true, named := ["math/bits.divideError", "math/bits.overflowError"], apart := false }
def GroupSharesSaid : Prop := groupSharesRow.holds Tryz.pinned (OpenSpec.ofChange groupSharesSpec)

/-- ITS FALSE NEIGHBOUR: 'it returns false'. Refute it at one input. -/
def groupSharesWrong : ChangeSpec := { name := "groupShares", fn := fun _ => fun
  | [d1, d2, d3, d4, d5, d6] => { results := [.lit (.bool false)], args := [d1, d2, d3, d4, d5, d6] }
  | _ => none }
def GroupSharesWrongFalsely : Prop := groupSharesRow.holds Tryz.pinned (OpenSpec.ofChange groupSharesWrong)

/- THE SECOND FORM. 'bulk': how many values and letters a reading holds, each counted each time it is reached (what is shared counts as often as it is met; a slice's spare places count too). A statement '..UptoSaid' is the law's where the arguments, and the package variables that the reading takes, are together of bulk at most 1048576: NARROWER than '..Said'. Prove '..Said' where nothing that the law and all that it calls make is longer than what came in: it says more and counts as full. Else prove '..UptoSaid'. A law counts once. -/
mutual
def uptoBulk {H : Type} : DataW H → Nat
  | .lit (.string bytes) => bytes.length + 1
  | .lit _ => 1
  | .nil => 1
  | .ptr d => uptoBulk d + 1
  | .slice elems spare => uptoBulkAll elems + uptoBulkAll spare + 1
  | .agg parts => uptoBulkAll parts + 1
  | .iface _ d => uptoBulk d + 1
  | .map entries => uptoBulkEntries entries + 1
  | .held _ => 1
def uptoBulkAll {H : Type} : List (DataW H) → Nat
  | [] => 0
  | d :: r => uptoBulk d + uptoBulkAll r
def uptoBulkEntries {H : Type} : List (Lit × DataW H) → Nat
  | [] => 0
  | x :: r => uptoBulkEntry x + uptoBulkEntries r
def uptoBulkEntry {H : Type} : Lit × DataW H → Nat
  | (.string bytes, d) => bytes.length + uptoBulk d + 1
  | (_, d) => uptoBulk d + 1
 end
def uptoSmall : (H : Type) → List (DataW H) → Bool := fun _ ds => decide (uptoBulkAll ds ≤ 1048576)
def OpenSpec.upto (s : _root_.Go.ChangeSpec) : _root_.Go.OpenSpec := { _root_.Go.OpenSpec.ofChange s with cond := some uptoSmall }

/-- 'variorumlaw14.GroupTells', WHERE WHAT IT READS IS OF BULK AT MOST 1048576: true; the input reads as it did. -/
def groupTellsUptoRow : OpenClaim := { program := "ytbgkladgeijgdaagreat", sum := "c747b6202a2d655f8f8027ad299dfca285504a132523f3ca728f7b2c18e3b91b", func := "variorum/variorumlaw14.GroupTells", spec := "groupTells", inPlace := ["slices.overlaps[variorum/api.Journal]"], unfollowed := true, recurses := true, named := ["math/bits.divideError", "math/bits.overflowError"], apart := false, narrowed := true }
def GroupTellsUptoSaid : Prop := groupTellsUptoRow.holds Tryz.pinned (OpenSpec.upto groupTellsSpec)

/-- 'variorumlaw14.GroupOne', WHERE WHAT IT READS IS OF BULK AT MOST 1048576: true; the input reads as it did. -/
def groupOneUptoRow : OpenClaim := { program := "ytbgkladgeijgdaagreat", sum := "c747b6202a2d655f8f8027ad299dfca285504a132523f3ca728f7b2c18e3b91b", func := "variorum/variorumlaw14.GroupOne", spec := "groupOne", inPlace := ["slices.overlaps[variorum/api.Journal]"], unfollowed := true, recurses := true, named := ["math/bits.divideError", "math/bits.overflowError"], apart := false, narrowed := true }
def GroupOneUptoSaid : Prop := groupOneUptoRow.holds Tryz.pinned (OpenSpec.upto groupOneSpec)

/-- 'variorumlaw14.GroupShares', WHERE WHAT IT READS IS OF BULK AT MOST 1048576: true; the input reads as it did. -/
def groupSharesUptoRow : OpenClaim := { program := "ytbgkladgeijgdaagreat", sum := "c747b6202a2d655f8f8027ad299dfca285504a132523f3ca728f7b2c18e3b91b", func := "variorum/variorumlaw14.GroupShares", spec := "groupShares", inPlace := ["slices.overlaps[variorum/api.Journal]"], unfollowed := true, recurses := true, named := ["math/bits.divideError", "math/bits.overflowError"], apart := false, narrowed := true }
def GroupSharesUptoSaid : Prop := groupSharesUptoRow.holds Tryz.pinned (OpenSpec.upto groupSharesSpec)

end Rows
end Go.Proofs.YtbgkladgeijgdaaGreat
