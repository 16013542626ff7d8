/- Frames: of what was there only some blocks may have turned. -/
import Derived.Test.YtacemlbfifhllaaGreatX02GatesPlay
set_option linter.unusedVariables false
set_option linter.unusedSimpArgs false
namespace Go.Proofs.YtacemlbfifhllaaGreat
open Go.RowKit Go.Maps

/-- of what was there only the blocks of F may have turned -/
structure But (F : Nat → Prop) (w w' : World) : Prop where
  os : w'.os = w.os
  tape : w'.tape = w.tape
  output : w'.output = w.output
  size : w.heap.size ≤ w'.heap.size
  block : ∀ k, k < w.heap.size → ¬ F k → w'.heap[k]? = w.heap[k]?
section
variable {F G : Nat → Prop} {w w1 w2 : World}
theorem But.refl (F : Nat → Prop) (w : World) : But F w w := ⟨rfl, rfl, rfl, Nat.le_refl _, fun _ _ _ => rfl⟩
theorem But.trans (h : But F w w1) (k : But F w1 w2) : But F w w2 :=
  ⟨k.os.trans h.os, k.tape.trans h.tape, k.output.trans h.output, Nat.le_trans h.size k.size, fun i hi hf => (k.block i (Nat.lt_of_lt_of_le hi h.size) hf).trans (h.block i hi hf)⟩
theorem But.mono (h : But F w w1) (hi : ∀ k, k < w.heap.size → F k → G k) : But G w w1 := ⟨h.os, h.tape, h.output, h.size, fun k hk hg => h.block k hk (fun hf => hg (hi k hk hf))⟩
theorem But.of_below (h : Below w.heap.size w w1) (F : Nat → Prop) : But F w w1 := ⟨h.os, h.tape, h.output, h.size, fun k hk _ => h.block k hk⟩
theorem But.below (h : But F w w1) (hf : ∀ k, k < w.heap.size → ¬ F k) : Below w.heap.size w w1 := ⟨h.os, h.tape, h.output, h.size, fun k hk => h.block k hk (hf k hk)⟩
theorem But.drewN (h : But F w w1) (n : Nat) : But F w (w1.drewN n) := ⟨h.os, h.tape, h.output, h.size, h.block⟩
theorem But.drew (h : But F w w1) : But F w w1.drew := ⟨h.os, h.tape, h.output, h.size, h.block⟩
theorem But.alloc (h : But F w w1) (o : Obj) : But F w (w1.alloc o) := h.trans (.of_below ((Below.refl _ _).alloc (Nat.le_refl _) o) F)
theorem But.call (h : But F w w1) (hb : Below w1.heap.size w1 w2) : But F w w2 := h.trans (.of_below hb F)
theorem But.only {b : Nat} (h : But F w w1) (ho : OnlyB w1 w2 b) (hf : F b ∨ w.heap.size ≤ b) : But F w w2 :=
  ⟨ho.grown.os.trans h.os, ho.grown.tape.trans h.tape, ho.grown.output.trans h.output, by have := ho.size; have := h.size; omega, fun k hk hfk => by
    have hne : some k ≠ some b := by
      intro e
      injection e with e
      subst e
      rcases hf with hf | hf
      · exact hfk hf
      · omega
    exact (ho.grown.block k (Nat.lt_of_lt_of_le hk h.size) hne).trans (h.block k hk hfk)⟩
theorem But.setCell (h : But F w w1) {p : Addr} (hp : F p.block ∨ w.heap.size ≤ p.block) (u : Value) : But F w (w1.setCell p u) :=
  ⟨h.os, h.tape, h.output, by have := h.size; simpa [World.setCell] using this, fun k hk hfk => by
    have hne : k ≠ p.block := by
      intro e
      subst e
      rcases hp with hf | hf
      · exact hfk hf
      · omega
    exact (Below.heap_setCell w1 p u k hne).trans (h.block k hk hfk)⟩
theorem OnlyB.heap {b k : Nat} (ho : OnlyB w w1 b) (hk : k ≠ b) : w1.heap[k]? = w.heap[k]? := by
  by_cases hlt : k < w.heap.size
  · exact ho.grown.block k hlt (fun e => hk (by injection e))
  · have hs := ho.size
    rw [Array.getElem?_eq_none (by omega), Array.getElem?_eq_none (by omega)]
end

theorem But.grown {F : Nat → Prop} {w w1 w2 : World} {r : Option Nat} (h : But F w w1) (hg : w1.grownBy w2 r) (hf : ∀ k, r = some k → F k ∨ w.heap.size ≤ k) : But F w w2 :=
  ⟨hg.os.trans h.os, hg.tape.trans h.tape, hg.output.trans h.output, Nat.le_trans h.size hg.size, fun k hk hfk => by
    have hne : some k ≠ r := by
      intro e
      rcases hf k e.symm with hf | hf
      · exact hfk hf
      · omega
    exact (hg.block k (Nat.lt_of_lt_of_le hk h.size) hne).trans (h.block k hk hfk)⟩
end Go.Proofs.YtacemlbfifhllaaGreat


/- Journals and their lines: plain types, how they lie in memory. -/
set_option linter.unusedVariables false
set_option linter.unusedSimpArgs false
namespace Go.Proofs.YtacemlbfifhllaaGreat
open Go.RowKit Go.Maps

structure Ln where
  acc : Int
  amt : Int
  par : Int
  deriving DecidableEq
structure Jn where
  id : Int
  en : Int
  pe : Int
  ref : ByteArray
  lines : List Ln
  void : Bool
def Ln.mk' (x : Int × Int × Int × Unit) : Ln := ⟨x.1, x.2.1, x.2.2.1⟩
def Jn.mk' (x : Int × Int × Int × ByteArray × List Ln × Bool × Unit) : Jn := ⟨x.1, x.2.1, x.2.2.1, x.2.2.2.1, x.2.2.2.2.1, x.2.2.2.2.2.1⟩

def tStr : Ty Tryz.prog 9 ByteArray := Ty.str _ 9 Tryz.underlying9 (by kernel_rfl)
def tBool : Ty Tryz.prog 4 Bool := Ty.bool _ 4 Tryz.underlying4 (by kernel_rfl)
abbrev fld (n : String) (t o b : Nat) : Field := { name := n, type := t, offset := o, embedded := false, tag := "", pkgPath := "", byteOffset := b }
def fLn : Flds Tryz.prog [fld "Account" 3 0 0, fld "Amount" 3 1 8, fld "Partner" 3 2 16] 0 (Int × Int × Int × Unit) :=
  Flds.cons (f := fld "Account" 3 0 0) tInt rfl (Flds.cons (f := fld "Amount" 3 1 8) tInt rfl (Flds.cons (f := fld "Partner" 3 2 16) tInt rfl (Flds.nil _ _)))
def tLn : Ty Tryz.prog 134 Ln := (Ty.struct Tryz.underlying134 fLn (by kernel_rfl)).map Ln.mk'
def tLns : Ty Tryz.prog 108 (List Ln) := Ty.slice Tryz.underlying108 (by kernel_rfl) tLn (by decide)
def fJn : Flds Tryz.prog [fld "Id" 3 0 0, fld "Entity" 3 1 8, fld "Period" 3 2 16, fld "Ref" 9 3 24, fld "Lines" 108 4 40, fld "Void" 4 5 64] 0 (Int × Int × Int × ByteArray × List Ln × Bool × Unit) :=
  Flds.cons (f := fld "Id" 3 0 0) tInt rfl (Flds.cons (f := fld "Entity" 3 1 8) tInt rfl (Flds.cons (f := fld "Period" 3 2 16) tInt rfl
    (Flds.cons (f := fld "Ref" 9 3 24) tStr rfl (Flds.cons (f := fld "Lines" 108 4 40) tLns rfl (Flds.cons (f := fld "Void" 4 5 64) tBool rfl (Flds.nil _ _))))))
def tJn : Ty Tryz.prog 120 Jn := (Ty.struct Tryz.underlying120 fJn (by kernel_rfl)).map Jn.mk'
def tJns : Ty Tryz.prog 110 (List Jn) := Ty.slice Tryz.underlying110 (by kernel_rfl) tJn (by decide)

theorem tLn_n : tLn.n = 3 := rfl
theorem tJn_n : tJn.n = 6 := rfl
theorem ln_inv {w : World} {F : Nat → Prop} {cs : List Value} {o : Ln} (h : tLn.R w F cs o) : cs = [.int .i64 o.acc, .int .i64 o.amt, .int .i64 o.par] ∧ I64 o.acc ∧ I64 o.amt ∧ I64 o.par := by
  obtain ⟨x, rfl, c1, c2, rfl, ⟨rfl, h1⟩, c3, c4, rfl, ⟨rfl, h2⟩, c5, c6, rfl, ⟨rfl, h3⟩, rfl⟩ := h
  exact ⟨rfl, h1, h2, h3⟩
theorem ln_mk {w : World} {F : Nat → Prop} (o : Ln) (h1 : I64 o.acc) (h2 : I64 o.amt) (h3 : I64 o.par) : tLn.R w F [.int .i64 o.acc, .int .i64 o.amt, .int .i64 o.par] o :=
  ⟨(o.acc, o.amt, o.par, ()), rfl, [_], [_, _], rfl, ⟨rfl, h1⟩, [_], [_], rfl, ⟨rfl, h2⟩, [_], [], rfl, ⟨rfl, h3⟩, rfl⟩
theorem jn_inv {w : World} {F : Nat → Prop} {cs : List Value} {j : Jn} (h : tJn.R w F cs j) :
    ∃ a cap, cs = [.int .i64 j.id, .int .i64 j.en, .int .i64 j.pe, .string j.ref, .slice a j.lines.length cap, .bool j.void] ∧ I64 j.id ∧ I64 j.en ∧ I64 j.pe ∧ j.ref.size ≤ 140737488351232 ∧
      Sl tLn w F a j.lines ∧ j.lines.length ≤ cap ∧ cap ≤ maxLen ∧ j.lines.length * Tryz.prog.bytesOf 134 ≤ 140737488351232 := by
  obtain ⟨x, rfl, c1, c2, rfl, ⟨rfl, h1⟩, c3, c4, rfl, ⟨rfl, h2⟩, c5, c6, rfl, ⟨rfl, h3⟩, c7, c8, rfl, ⟨rfl, h4⟩, c9, c10, rfl, ⟨a, cap, rfl, h5⟩, c11, c12, rfl, rfl, rfl⟩ := h
  exact ⟨a, cap, rfl, h1, h2, h3, h4, h5⟩
theorem jn_mk {w : World} {F : Nat → Prop} (j : Jn) {a : Option Addr} {cap : Nat} (h1 : I64 j.id) (h2 : I64 j.en) (h3 : I64 j.pe) (h4 : j.ref.size ≤ 140737488351232) (h5 : Sl tLn w F a j.lines) (h6 : j.lines.length ≤ cap) (h7 : cap ≤ maxLen) (h8 : j.lines.length * Tryz.prog.bytesOf 134 ≤ 140737488351232) :
    tJn.R w F [.int .i64 j.id, .int .i64 j.en, .int .i64 j.pe, .string j.ref, .slice a j.lines.length cap, .bool j.void] j :=
  ⟨(j.id, j.en, j.pe, j.ref, j.lines, j.void, ()), rfl, [_], [_, _, _, _, _], rfl, ⟨rfl, h1⟩, [_], [_, _, _, _], rfl, ⟨rfl, h2⟩, [_], [_, _, _], rfl, ⟨rfl, h3⟩, [_], [_, _], rfl, ⟨rfl, h4⟩, [_], [_], rfl, ⟨a, cap, rfl, h5, h6, h7, h8⟩, [_], [], rfl, rfl, rfl⟩
theorem line_bytes : Tryz.prog.bytesOf 134 = 24 := by kernel_rfl
theorem journal_bytes : Tryz.prog.bytesOf 120 = 72 := by kernel_rfl

theorem ln_at {w : World} {F : Nat → Prop} {a : Option Addr} {l : List Ln} (h : Sl tLn w F a l) (i : Nat) (hi : i < l.length) :
    ∃ ad, a = some ad ∧ F ad.block ∧ ad.block < w.heap.size ∧ w.cell? (ad.add (i * 3)) = some (.int .i64 l[i].acc) ∧ w.cell? ⟨(ad.add (i * 3)).block, (ad.add (i * 3)).off + 1, none⟩ = some (.int .i64 l[i].amt) ∧
      w.cell? ⟨(ad.add (i * 3)).block, (ad.add (i * 3)).off + 2, none⟩ = some (.int .i64 l[i].par) ∧ I64 l[i].acc ∧ I64 l[i].amt ∧ I64 l[i].par := by
  obtain ⟨ad, ces, rfl, hf, hlt, hc, hr⟩ := h i l[i] (List.getElem?_eq_getElem hi)
  obtain ⟨rfl, h1, h2, h3⟩ := ln_inv hr
  rw [tLn_n] at hc
  refine ⟨ad, rfl, hf, hlt, ?_, ?_, ?_, h1, h2, h3⟩
  · have := hc 0 _ rfl
    simpa [Addr.add] using this
  · have := hc 1 _ rfl
    rw [Addr.add] at this
    simpa using this
  · have := hc 2 _ rfl
    rw [Addr.add] at this
    simpa using this

/-- a journal as a value, in a world -/
def IsJn (w : World) (F : Nat → Prop) (v : Value) (j : Jn) : Prop := ∃ cs, v = .agg cs.toArray ∧ tJn.R w F cs j
end Go.Proofs.YtacemlbfifhllaaGreat
