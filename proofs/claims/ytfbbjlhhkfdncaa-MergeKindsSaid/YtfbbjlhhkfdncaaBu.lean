/- Frames: of what was there only some blocks may have turned. -/
import Derived.Test.YtfbbjlhhkfdncaaK
set_option linter.unusedVariables false
set_option linter.unusedSimpArgs false
namespace Go.Proofs.Ytfbbjlhhkfdncaa
open Go.RowKit Go.Maps

/-- of what was there only the blocks of F may have turned -/
structure But (F : Nat → Prop) (w w' : World) : Prop where
  os : w'.os = w.os
  tape : w'.tape = w.tape
  output : w'.output = w.output
  size : w.heap.size ≤ w'.heap.size
  block : ∀ k, k < w.heap.size → ¬ F k → w'.heap[k]? = w.heap[k]?
section
variable {F G : Nat → Prop} {w w1 w2 : World}
theorem But.refl (F : Nat → Prop) (w : World) : But F w w := ⟨rfl, rfl, rfl, Nat.le_refl _, fun _ _ _ => rfl⟩
theorem But.trans (h : But F w w1) (k : But F w1 w2) : But F w w2 :=
  ⟨k.os.trans h.os, k.tape.trans h.tape, k.output.trans h.output, Nat.le_trans h.size k.size, fun i hi hf => (k.block i (Nat.lt_of_lt_of_le hi h.size) hf).trans (h.block i hi hf)⟩
theorem But.mono (h : But F w w1) (hi : ∀ k, k < w.heap.size → F k → G k) : But G w w1 := ⟨h.os, h.tape, h.output, h.size, fun k hk hg => h.block k hk (fun hf => hg (hi k hk hf))⟩
theorem But.of_below (h : Below w.heap.size w w1) (F : Nat → Prop) : But F w w1 := ⟨h.os, h.tape, h.output, h.size, fun k hk _ => h.block k hk⟩
theorem But.below (h : But F w w1) (hf : ∀ k, k < w.heap.size → ¬ F k) : Below w.heap.size w w1 := ⟨h.os, h.tape, h.output, h.size, fun k hk => h.block k hk (hf k hk)⟩
theorem But.drewN (h : But F w w1) (n : Nat) : But F w (w1.drewN n) := ⟨h.os, h.tape, h.output, h.size, h.block⟩
theorem But.drew (h : But F w w1) : But F w w1.drew := ⟨h.os, h.tape, h.output, h.size, h.block⟩
theorem But.alloc (h : But F w w1) (o : Obj) : But F w (w1.alloc o) := h.trans (.of_below ((Below.refl _ _).alloc (Nat.le_refl _) o) F)
theorem But.call (h : But F w w1) (hb : Below w1.heap.size w1 w2) : But F w w2 := h.trans (.of_below hb F)
theorem But.only {b : Nat} (h : But F w w1) (ho : OnlyB w1 w2 b) (hf : F b ∨ w.heap.size ≤ b) : But F w w2 :=
  ⟨ho.grown.os.trans h.os, ho.grown.tape.trans h.tape, ho.grown.output.trans h.output, by have := ho.size; have := h.size; omega, fun k hk hfk => by
    have hne : some k ≠ some b := by
      intro e
      injection e with e
      subst e
      rcases hf with hf | hf
      · exact hfk hf
      · omega
    exact (ho.grown.block k (Nat.lt_of_lt_of_le hk h.size) hne).trans (h.block k hk hfk)⟩
theorem But.setCell (h : But F w w1) {p : Addr} (hp : F p.block ∨ w.heap.size ≤ p.block) (u : Value) : But F w (w1.setCell p u) :=
  ⟨h.os, h.tape, h.output, by have := h.size; simpa [World.setCell] using this, fun k hk hfk => by
    have hne : k ≠ p.block := by
      intro e
      subst e
      rcases hp with hf | hf
      · exact hfk hf
      · omega
    exact (Below.heap_setCell w1 p u k hne).trans (h.block k hk hfk)⟩
theorem OnlyB.heap {b k : Nat} (ho : OnlyB w w1 b) (hk : k ≠ b) : w1.heap[k]? = w.heap[k]? := by
  by_cases hlt : k < w.heap.size
  · exact ho.grown.block k hlt (fun e => hk (by injection e))
  · have hs := ho.size
    rw [Array.getElem?_eq_none (by omega), Array.getElem?_eq_none (by omega)]
end

theorem But.grown {F : Nat → Prop} {w w1 w2 : World} {r : Option Nat} (h : But F w w1) (hg : w1.grownBy w2 r) (hf : ∀ k, r = some k → F k ∨ w.heap.size ≤ k) : But F w w2 :=
  ⟨hg.os.trans h.os, hg.tape.trans h.tape, hg.output.trans h.output, Nat.le_trans h.size hg.size, fun k hk hfk => by
    have hne : some k ≠ r := by
      intro e
      rcases hf k e.symm with hf | hf
      · exact hfk hf
      · omega
    exact (hg.block k (Nat.lt_of_lt_of_le hk h.size) hne).trans (h.block k hk hfk)⟩
end Go.Proofs.Ytfbbjlhhkfdncaa
