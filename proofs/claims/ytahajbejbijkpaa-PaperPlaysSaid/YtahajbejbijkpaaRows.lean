/-
  No cell of these rows narrows 'for every input' (looked for: loops, veiled, ifaces, maps, wideKeys, modest, calm, conditions, laid).
  DERIVED. THE GIVEN ROWS OF THIS SEAT. 3 by the template 'for every input the law returns true; each argument reads behind the call as it read before'; 0 by the template 'total and deterministic' (their statements: YtahajbejbijkpaaTotals.lean).
  GIVEN WITH THE SEED: the statements are not yours to turn. If you find one false, say at which input.
  Laid BY PROGRAM, IN A SANDBOX (cutbox-rows.mjs): the forced cells as the released guide's own fill.sh prints them over the translation 5c2852f56b513b61… (all of the seat's roots in one cut). By AI agents, Wed Nov 11 2026. No macro, syntax, notation, axiom, sorry.
-/
import Derived.Test.YtahajbejbijkpaaChecked
import GoSem.Claim
import GoSem.ClaimJoined
import GoSem.ClaimMapViews
import Derived.JoinedTies
import Derived.KernelRfl
namespace Go.Proofs.Ytahajbejbijkpaa
/- THE CELL 'sum', in the pinned program and in every row, IS THE sha256 OF THE DUMP (.gsa) THAT YtahajbejbijkpaaProg.lean LOADS. Nothing in Lean hashes anything: it is a label: what it is worth is what the hold of that sum in a sandbox is worth. -/
noncomputable def Try.pinned : Pinned := { name := "ytahajbejbijkpaa", sum := "5c2852f56b513b6139c33794769c9663011caeeb20d8c1c4dc6bb59cdfe179f0", checked := Try.checked }
namespace Rows
def none {H : Type} : Left H := { results := [], args := [] }

/-- 'variorumlaw23.PaperAgain': WHATEVER THE INPUT: true; the input reads as it did. -/
def paperAgainSpec : ChangeSpec := { name := "paperAgain", fn := fun _ => fun
  | [d1, d2, d3] => { results := [.lit (.bool true)], args := [d1, d2, d3] }
  | _ => none }
def paperAgainRow : OpenClaim := { program := "ytahajbejbijkpaa", sum := "5c2852f56b513b6139c33794769c9663011caeeb20d8c1c4dc6bb59cdfe179f0", func := "variorum/variorumlaw23.PaperAgain", spec := "paperAgain", unfollowed := true, recurses := true, apart := false }
def PaperAgainSaid : Prop := paperAgainRow.holds Try.pinned (OpenSpec.ofChange paperAgainSpec)

/-- ITS FALSE NEIGHBOUR: 'it returns false'. Refute it at one input. -/
def paperAgainWrong : ChangeSpec := { name := "paperAgain", fn := fun _ => fun
  | [d1, d2, d3] => { results := [.lit (.bool false)], args := [d1, d2, d3] }
  | _ => none }
def PaperAgainWrongFalsely : Prop := paperAgainRow.holds Try.pinned (OpenSpec.ofChange paperAgainWrong)

/-- 'variorumlaw23.PaperPlays': WHATEVER THE INPUT: true; the input reads as it did. -/
def paperPlaysSpec : ChangeSpec := { name := "paperPlays", fn := fun _ => fun
  | [d1, d2, d3, d4, d5, d6] => { results := [.lit (.bool true)], args := [d1, d2, d3, d4, d5, d6] }
  | _ => none }
def paperPlaysRow : OpenClaim := { program := "ytahajbejbijkpaa", sum := "5c2852f56b513b6139c33794769c9663011caeeb20d8c1c4dc6bb59cdfe179f0", func := "variorum/variorumlaw23.PaperPlays", spec := "paperPlays", unfollowed := true, recurses := true, apart := false }
def PaperPlaysSaid : Prop := paperPlaysRow.holds Try.pinned (OpenSpec.ofChange paperPlaysSpec)

/-- ITS FALSE NEIGHBOUR: 'it returns false'. Refute it at one input. -/
def paperPlaysWrong : ChangeSpec := { name := "paperPlays", fn := fun _ => fun
  | [d1, d2, d3, d4, d5, d6] => { results := [.lit (.bool false)], args := [d1, d2, d3, d4, d5, d6] }
  | _ => none }
def PaperPlaysWrongFalsely : Prop := paperPlaysRow.holds Try.pinned (OpenSpec.ofChange paperPlaysWrong)

/-- 'variorumlaw23.PaperAuthors': WHATEVER THE INPUT: true; the input reads as it did. -/
def paperAuthorsSpec : ChangeSpec := { name := "paperAuthors", fn := fun _ => fun
  | [d] => { results := [.lit (.bool true)], args := [d] }
  | _ => none }
def paperAuthorsRow : OpenClaim := { program := "ytahajbejbijkpaa", sum := "5c2852f56b513b6139c33794769c9663011caeeb20d8c1c4dc6bb59cdfe179f0", func := "variorum/variorumlaw23.PaperAuthors", spec := "paperAuthors", unfollowed := true, recurses := true, apart := false }
def PaperAuthorsSaid : Prop := paperAuthorsRow.holds Try.pinned (OpenSpec.ofChange paperAuthorsSpec)

/-- ITS FALSE NEIGHBOUR: 'it returns false'. Refute it at one input. -/
def paperAuthorsWrong : ChangeSpec := { name := "paperAuthors", fn := fun _ => fun
  | [d] => { results := [.lit (.bool false)], args := [d] }
  | _ => none }
def PaperAuthorsWrongFalsely : Prop := paperAuthorsRow.holds Try.pinned (OpenSpec.ofChange paperAuthorsWrong)

/- THE SECOND FORM. 'bulk': how many values and letters a reading holds, each counted each time it is reached (what is shared counts as often as it is met; a slice's spare places count too). A statement '..UptoSaid' is the law's where the arguments, and the package variables that the reading takes, are together of bulk at most 1048576: NARROWER than '..Said'. Prove '..Said' where nothing that the law and all that it calls make is longer than what came in: it says more and counts as full. Else prove '..UptoSaid'. A law counts once. -/
mutual
def uptoBulk {H : Type} : DataW H → Nat
  | .lit (.string bytes) => bytes.length + 1
  | .lit _ => 1
  | .nil => 1
  | .ptr d => uptoBulk d + 1
  | .slice elems spare => uptoBulkAll elems + uptoBulkAll spare + 1
  | .agg parts => uptoBulkAll parts + 1
  | .iface _ d => uptoBulk d + 1
  | .map entries => uptoBulkEntries entries + 1
  | .held _ => 1
def uptoBulkAll {H : Type} : List (DataW H) → Nat
  | [] => 0
  | d :: r => uptoBulk d + uptoBulkAll r
def uptoBulkEntries {H : Type} : List (Lit × DataW H) → Nat
  | [] => 0
  | x :: r => uptoBulkEntry x + uptoBulkEntries r
def uptoBulkEntry {H : Type} : Lit × DataW H → Nat
  | (.string bytes, d) => bytes.length + uptoBulk d + 1
  | (_, d) => uptoBulk d + 1
 end
def uptoSmall : (H : Type) → List (DataW H) → Bool := fun _ ds => decide (uptoBulkAll ds ≤ 1048576)
def OpenSpec.upto (s : _root_.Go.ChangeSpec) : _root_.Go.OpenSpec := { _root_.Go.OpenSpec.ofChange s with cond := some uptoSmall }

/-- 'variorumlaw23.PaperAgain', WHERE WHAT IT READS IS OF BULK AT MOST 1048576: true; the input reads as it did. -/
def paperAgainUptoRow : OpenClaim := { program := "ytahajbejbijkpaa", sum := "5c2852f56b513b6139c33794769c9663011caeeb20d8c1c4dc6bb59cdfe179f0", func := "variorum/variorumlaw23.PaperAgain", spec := "paperAgain", unfollowed := true, recurses := true, apart := false, narrowed := true }
def PaperAgainUptoSaid : Prop := paperAgainUptoRow.holds Try.pinned (OpenSpec.upto paperAgainSpec)

/-- 'variorumlaw23.PaperPlays', WHERE WHAT IT READS IS OF BULK AT MOST 1048576: true; the input reads as it did. -/
def paperPlaysUptoRow : OpenClaim := { program := "ytahajbejbijkpaa", sum := "5c2852f56b513b6139c33794769c9663011caeeb20d8c1c4dc6bb59cdfe179f0", func := "variorum/variorumlaw23.PaperPlays", spec := "paperPlays", unfollowed := true, recurses := true, apart := false, narrowed := true }
def PaperPlaysUptoSaid : Prop := paperPlaysUptoRow.holds Try.pinned (OpenSpec.upto paperPlaysSpec)

/-- 'variorumlaw23.PaperAuthors', WHERE WHAT IT READS IS OF BULK AT MOST 1048576: true; the input reads as it did. -/
def paperAuthorsUptoRow : OpenClaim := { program := "ytahajbejbijkpaa", sum := "5c2852f56b513b6139c33794769c9663011caeeb20d8c1c4dc6bb59cdfe179f0", func := "variorum/variorumlaw23.PaperAuthors", spec := "paperAuthors", unfollowed := true, recurses := true, apart := false, narrowed := true }
def PaperAuthorsUptoSaid : Prop := paperAuthorsUptoRow.holds Try.pinned (OpenSpec.upto paperAuthorsSpec)

end Rows
end Go.Proofs.Ytahajbejbijkpaa
