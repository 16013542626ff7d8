/- Maps with whole numbers as keys. -/
import Derived.Test.YtfbbjlhhkfdncaaGa
import Derived.Test.YtfbbjlhhkfdncaaBu
import Derived.Test.YtfbbjlhhkfdncaaIt
set_option linter.unusedVariables false
set_option linter.unusedSimpArgs false
namespace Go.Proofs.Ytfbbjlhhkfdncaa
open Go.RowKit Go.Maps

def mInt : MK Try.prog 3 Int where
  K := int_keyed Try.underlying3
  ek := fun k => .int .i64 k
  ok := fun k => I64 k
  key := fun k h => ⟨_, keyOf_int_mk Try.underlying3 h⟩
  inj := by
    intro a b h
    simpa using h
theorem zeroI (w : World) : (zeroValue 3).run Try.prog w = .ok (.int .i64 0) w := by kernel_rfl
/-- what stands under a key: 0, if nothing -/
def at0 (s : List (Int × Int)) (k : Int) : Int := (look s k).getD 0
theorem lookI {T : TypeId} {w : World} {b : Nat} {s : List (Int × Int)} (h : MapIs mInt (Value.int .i64) w b s) (ht : Try.prog.underlying T = some (.map 3 3)) {k : Int} (hk : I64 k) (W : World) (hW : W.heap[b]? = w.heap[b]?) :
    (Instr.lookup T (.map (some b)) (.int .i64 k) false).run Try.prog W = .ok (.int .i64 (at0 s k)) W := by
  have := (h.keep (w' := W) hW).lookup ht (k := k) hk (zeroI W)
  rw [show mInt.ek k = .int .i64 k from rfl] at this
  rw [this]
  unfold at0
  cases look s k <;> rfl
theorem wrap64_wf (n : Int) : I64 (wrap64 n) := by
  unfold I64 Lit.wf wrap64
  simp [IntKind.min, IntKind.max, IntKind.bits, IntKind.signed]
  omega
/-- an amount added under a key -/
def sAdd (s : List (Int × Int)) (k v : Int) : List (Int × Int) := ins s k (wrap64 (at0 s k + v))
theorem sAdd_vals {s : List (Int × Int)} (h : ∀ x ∈ s, I64 x.2) (k v : Int) : ∀ x ∈ sAdd s k v, I64 x.2 := by
  intro x hx
  rcases mem_ins hx with rfl | hx
  · exact wrap64_wf _
  · exact h x hx
end Go.Proofs.Ytfbbjlhhkfdncaa
