/- Maps with whole numbers as keys. -/
import Derived.Test.YtapmedcgfnlchaaGreatX02SheetHolds
import Derived.Test.YtapmedcgfnlchaaGreatX03SheetHolds
set_option linter.unusedVariables false
set_option linter.unusedSimpArgs false
namespace Go.Proofs.YtapmedcgfnlchaaGreat
open Go.RowKit Go.Maps

def mInt : MK Tryz.prog 3 Int where
  K := int_keyed Tryz.underlying3
  ek := fun k => .int .i64 k
  ok := fun k => I64 k
  key := fun k h => ⟨_, keyOf_int_mk Tryz.underlying3 h⟩
  inj := by
    intro a b h
    simpa using h
theorem zeroI (w : World) : (zeroValue 3).run Tryz.prog w = .ok (.int .i64 0) w := by kernel_rfl
/-- what stands under a key: 0, if nothing -/
def at0 (s : List (Int × Int)) (k : Int) : Int := (look s k).getD 0
theorem lookI {T : TypeId} {w : World} {b : Nat} {s : List (Int × Int)} (h : MapIs mInt (Value.int .i64) w b s) (ht : Tryz.prog.underlying T = some (.map 3 3)) {k : Int} (hk : I64 k) (W : World) (hW : W.heap[b]? = w.heap[b]?) :
    (Instr.lookup T (.map (some b)) (.int .i64 k) false).run Tryz.prog W = .ok (.int .i64 (at0 s k)) W := by
  have := (h.keep (w' := W) hW).lookup ht (k := k) hk (zeroI W)
  rw [show mInt.ek k = .int .i64 k from rfl] at this
  rw [this]
  unfold at0
  cases look s k <;> rfl
theorem wrap64_wf (n : Int) : I64 (wrap64 n) := by
  unfold I64 Lit.wf wrap64
  simp [IntKind.min, IntKind.max, IntKind.bits, IntKind.signed]
  omega
/-- an amount added under a key -/
def sAdd (s : List (Int × Int)) (k v : Int) : List (Int × Int) := ins s k (wrap64 (at0 s k + v))
theorem sAdd_vals {s : List (Int × Int)} (h : ∀ x ∈ s, I64 x.2) (k v : Int) : ∀ x ∈ sAdd s k v, I64 x.2 := by
  intro x hx
  rcases mem_ins hx with rfl | hx
  · exact wrap64_wf _
  · exact h x hx
end Go.Proofs.YtapmedcgfnlchaaGreat


/- Journals and their lines: plain types, how they lie in memory. -/
set_option linter.unusedVariables false
set_option linter.unusedSimpArgs false
namespace Go.Proofs.YtapmedcgfnlchaaGreat
open Go.RowKit Go.Maps

structure Ln where
  acc : Int
  amt : Int
  par : Int
  deriving DecidableEq
structure Jn where
  id : Int
  en : Int
  pe : Int
  ref : ByteArray
  lines : List Ln
  void : Bool
def Ln.mk' (x : Int × Int × Int × Unit) : Ln := ⟨x.1, x.2.1, x.2.2.1⟩
def Jn.mk' (x : Int × Int × Int × ByteArray × List Ln × Bool × Unit) : Jn := ⟨x.1, x.2.1, x.2.2.1, x.2.2.2.1, x.2.2.2.2.1, x.2.2.2.2.2.1⟩

def tStr : Ty Tryz.prog 9 ByteArray := Ty.str _ 9 Tryz.underlying9 (by kernel_rfl)
def tBool : Ty Tryz.prog 4 Bool := Ty.bool _ 4 Tryz.underlying4 (by kernel_rfl)
abbrev fld (n : String) (t o b : Nat) : Field := { name := n, type := t, offset := o, embedded := false, tag := "", pkgPath := "", byteOffset := b }
def fLn : Flds Tryz.prog [fld "Account" 3 0 0, fld "Amount" 3 1 8, fld "Partner" 3 2 16] 0 (Int × Int × Int × Unit) :=
  Flds.cons (f := fld "Account" 3 0 0) tInt rfl (Flds.cons (f := fld "Amount" 3 1 8) tInt rfl (Flds.cons (f := fld "Partner" 3 2 16) tInt rfl (Flds.nil _ _)))
def tLn : Ty Tryz.prog 57 Ln := (Ty.struct Tryz.underlying57 fLn (by kernel_rfl)).map Ln.mk'
def tLns : Ty Tryz.prog 58 (List Ln) := Ty.slice Tryz.underlying58 (by kernel_rfl) tLn (by decide)
def fJn : Flds Tryz.prog [fld "Id" 3 0 0, fld "Entity" 3 1 8, fld "Period" 3 2 16, fld "Ref" 9 3 24, fld "Lines" 58 4 40, fld "Void" 4 5 64] 0 (Int × Int × Int × ByteArray × List Ln × Bool × Unit) :=
  Flds.cons (f := fld "Id" 3 0 0) tInt rfl (Flds.cons (f := fld "Entity" 3 1 8) tInt rfl (Flds.cons (f := fld "Period" 3 2 16) tInt rfl
    (Flds.cons (f := fld "Ref" 9 3 24) tStr rfl (Flds.cons (f := fld "Lines" 58 4 40) tLns rfl (Flds.cons (f := fld "Void" 4 5 64) tBool rfl (Flds.nil _ _))))))
def tJn : Ty Tryz.prog 60 Jn := (Ty.struct Tryz.underlying60 fJn (by kernel_rfl)).map Jn.mk'
def tJns : Ty Tryz.prog 23 (List Jn) := Ty.slice Tryz.underlying23 (by kernel_rfl) tJn (by decide)

theorem tLn_n : tLn.n = 3 := rfl
theorem tJn_n : tJn.n = 6 := rfl
theorem ln_inv {w : World} {F : Nat → Prop} {cs : List Value} {o : Ln} (h : tLn.R w F cs o) : cs = [.int .i64 o.acc, .int .i64 o.amt, .int .i64 o.par] ∧ I64 o.acc ∧ I64 o.amt ∧ I64 o.par := by
  obtain ⟨x, rfl, c1, c2, rfl, ⟨rfl, h1⟩, c3, c4, rfl, ⟨rfl, h2⟩, c5, c6, rfl, ⟨rfl, h3⟩, rfl⟩ := h
  exact ⟨rfl, h1, h2, h3⟩
theorem ln_mk {w : World} {F : Nat → Prop} (o : Ln) (h1 : I64 o.acc) (h2 : I64 o.amt) (h3 : I64 o.par) : tLn.R w F [.int .i64 o.acc, .int .i64 o.amt, .int .i64 o.par] o :=
  ⟨(o.acc, o.amt, o.par, ()), rfl, [_], [_, _], rfl, ⟨rfl, h1⟩, [_], [_], rfl, ⟨rfl, h2⟩, [_], [], rfl, ⟨rfl, h3⟩, rfl⟩
theorem jn_inv {w : World} {F : Nat → Prop} {cs : List Value} {j : Jn} (h : tJn.R w F cs j) :
    ∃ a cap, cs = [.int .i64 j.id, .int .i64 j.en, .int .i64 j.pe, .string j.ref, .slice a j.lines.length cap, .bool j.void] ∧ I64 j.id ∧ I64 j.en ∧ I64 j.pe ∧ j.ref.size ≤ 140737488351232 ∧
      Sl tLn w F a j.lines ∧ j.lines.length ≤ cap ∧ cap ≤ maxLen ∧ j.lines.length * Tryz.prog.bytesOf 57 ≤ 140737488351232 := by
  obtain ⟨x, rfl, c1, c2, rfl, ⟨rfl, h1⟩, c3, c4, rfl, ⟨rfl, h2⟩, c5, c6, rfl, ⟨rfl, h3⟩, c7, c8, rfl, ⟨rfl, h4⟩, c9, c10, rfl, ⟨a, cap, rfl, h5⟩, c11, c12, rfl, rfl, rfl⟩ := h
  exact ⟨a, cap, rfl, h1, h2, h3, h4, h5⟩
theorem jn_mk {w : World} {F : Nat → Prop} (j : Jn) {a : Option Addr} {cap : Nat} (h1 : I64 j.id) (h2 : I64 j.en) (h3 : I64 j.pe) (h4 : j.ref.size ≤ 140737488351232) (h5 : Sl tLn w F a j.lines) (h6 : j.lines.length ≤ cap) (h7 : cap ≤ maxLen) (h8 : j.lines.length * Tryz.prog.bytesOf 57 ≤ 140737488351232) :
    tJn.R w F [.int .i64 j.id, .int .i64 j.en, .int .i64 j.pe, .string j.ref, .slice a j.lines.length cap, .bool j.void] j :=
  ⟨(j.id, j.en, j.pe, j.ref, j.lines, j.void, ()), rfl, [_], [_, _, _, _, _], rfl, ⟨rfl, h1⟩, [_], [_, _, _, _], rfl, ⟨rfl, h2⟩, [_], [_, _, _], rfl, ⟨rfl, h3⟩, [_], [_, _], rfl, ⟨rfl, h4⟩, [_], [_], rfl, ⟨a, cap, rfl, h5, h6, h7, h8⟩, [_], [], rfl, rfl, rfl⟩
theorem line_bytes : Tryz.prog.bytesOf 57 = 24 := by kernel_rfl
theorem journal_bytes : Tryz.prog.bytesOf 60 = 72 := by kernel_rfl

theorem ln_at {w : World} {F : Nat → Prop} {a : Option Addr} {l : List Ln} (h : Sl tLn w F a l) (i : Nat) (hi : i < l.length) :
    ∃ ad, a = some ad ∧ F ad.block ∧ ad.block < w.heap.size ∧ w.cell? (ad.add (i * 3)) = some (.int .i64 l[i].acc) ∧ w.cell? ⟨(ad.add (i * 3)).block, (ad.add (i * 3)).off + 1, none⟩ = some (.int .i64 l[i].amt) ∧
      w.cell? ⟨(ad.add (i * 3)).block, (ad.add (i * 3)).off + 2, none⟩ = some (.int .i64 l[i].par) ∧ I64 l[i].acc ∧ I64 l[i].amt ∧ I64 l[i].par := by
  obtain ⟨ad, ces, rfl, hf, hlt, hc, hr⟩ := h i l[i] (List.getElem?_eq_getElem hi)
  obtain ⟨rfl, h1, h2, h3⟩ := ln_inv hr
  rw [tLn_n] at hc
  refine ⟨ad, rfl, hf, hlt, ?_, ?_, ?_, h1, h2, h3⟩
  · have := hc 0 _ rfl
    simpa [Addr.add] using this
  · have := hc 1 _ rfl
    rw [Addr.add] at this
    simpa using this
  · have := hc 2 _ rfl
    rw [Addr.add] at this
    simpa using this

/-- a journal as a value, in a world -/
def IsJn (w : World) (F : Nat → Prop) (v : Value) (j : Jn) : Prop := ∃ cs, v = .agg cs.toArray ∧ tJn.R w F cs j
end Go.Proofs.YtapmedcgfnlchaaGreat
