/- law 16: changes of journals, plain. -/
import Derived.Test.YtogikjnfmcfbmaaX34MergeApart
set_option linter.unusedVariables false
set_option linter.unusedSimpArgs false
namespace Go.Proofs.Ytogikjnfmcfbmaa
open Go.RowKit Go.Maps

structure Ed where
  id : Int
  how : Int
  n : Int
  deriving DecidableEq
def mod20 (n : Int) : Int := (n.tmod 20 + 20).tmod 20
def mod9 (n : Int) : Int := 1 + (n.tmod 9 + 9).tmod 9
def mod5b (n : Int) : Int := 65 + (n.tmod 5 + 5).tmod 5
/-- one change of a journal; whether it is gone -/
def edStep (s : Jn × Bool) (e : Ed) : Jn × Bool :=
  if e.id != s.1.id then s else
  if e.how == 1 then ({ s.1 with pe := mod20 e.n }, s.2) else
  if e.how == 2 then ({ s.1 with void := true }, s.2) else
  if e.how == 3 then (s.1, true) else
  if e.how == 4 then ({ s.1 with lines := [⟨1, mod9 e.n, 0⟩, ⟨2, -mod9 e.n, 0⟩] }, s.2) else
  if e.how == 5 then ({ s.1 with ref := ⟨#[(mod5b e.n).toNat.toUInt8]⟩ }, s.2) else s
def edAll (es : List Ed) (j : Jn) : Jn × Bool := (es.take 20).foldl edStep (j, false)
def chStep (es : List Ed) (o : List Jn) (j : Jn) : List Jn := if !(edAll es j).2 && postJ o (edAll es j).1 == 0 then putJ o (edAll es j).1 else o
def moStep (o : List Jn) (j : Jn) : List Jn := if decide ((j.lines.length : Int) ≤ 8) && postJ o j == 0 then putJ o j else o
/-- journals with some changes, and others -/
def changedJ (l : List Jn) (es : List Ed) (more : List Jn) : List Jn := (more.take 20).foldl moStep (l.foldl (chStep es) [])
theorem ch_val (es : List Ed) : ∀ (l : List Jn) {o : List Jn}, ValJ o → ValJ (l.foldl (chStep es) o)
  | [], _, h => h
  | j :: r, o, h => by
    rw [List.foldl_cons]
    refine ch_val es r ?_
    unfold chStep
    split
    · rename_i hc
      simp only [Bool.and_eq_true, beq_iff_eq] at hc
      exact (h.put hc.2).1
    · exact h
theorem mo_val : ∀ (l : List Jn) {o : List Jn}, ValJ o → ValJ (l.foldl moStep o)
  | [], _, h => h
  | j :: r, o, h => by
    rw [List.foldl_cons]
    refine mo_val r ?_
    unfold moStep
    split
    · rename_i hc
      simp only [Bool.and_eq_true, beq_iff_eq] at hc
      exact (h.put hc.2).1
    · exact h
theorem changed_val (l : List Jn) (es : List Ed) (more : List Jn) : ValJ (changedJ l es more) := mo_val _ (ch_val es l ValJ.nil)
end Go.Proofs.Ytogikjnfmcfbmaa
