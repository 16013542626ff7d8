/- book: ahead, holds. -/
import Derived.Test.YtfbbjlhhkfdncaaPd
set_option linter.unusedVariables false
set_option linter.unusedSimpArgs false
namespace Go.Proofs.Ytfbbjlhhkfdncaa
open Go.RowKit Go.Maps

set_option maxHeartbeats 1000000 in
theorem ahead_any (j : Jn) (a : Option Addr) (cap : Nat) (id : Int) (w : World) (h1 : 0 ≤ j.id) (h2 : j.id ≤ 1000000) (h3 : 0 ≤ id) (h4 : id ≤ 1000000) :
    Calls Try.prog 116 #[jnv j a cap, .int .i64 id] w fun e w' => e = .returned (.int .i64 (j.id - id)) ∧ Below w.heap.size w w' := by
  obtain ⟨jid, en, pe, ref, lines, void⟩ := j
  simp only at h1 h2
  go_enter Try.func116, Try.ntmps116
  go_wp2_with fail
  go_ret
  refine ⟨?_, (Below.refl _ _).alloc (Nat.le_refl _) _⟩
  first
  | rfl
  | go_num

theorem holds_cases {h x : Jn} {b : Bool} (hc : clash h x = b) : (b = false ∧ (x.void = true ∨ x.void = false ∧ ((x.id != h.id) = false ∨ (x.id != h.id) = true ∧ ((x.en == h.en) = false ∨ (x.en == h.en) = true ∧ (x.ref.toList == h.ref.toList) = false)))) ∨
    (b = true ∧ x.void = false ∧ (x.id != h.id) = true ∧ (x.en == h.en) = true ∧ (x.ref.toList == h.ref.toList) = true) := by
  subst hc
  unfold clash
  cases x.id != h.id <;> cases x.void <;> cases x.ref.toList == h.ref.toList <;> cases x.en == h.en <;> simp

set_option maxHeartbeats 2000000 in
theorem holds_any (h x : Jn) (ha xa : Option Addr) (hc xc : Nat) (w : World) :
    Calls Try.prog 128 #[jnv h ha hc, jnv x xa xc] w fun e w' => e = .returned (.bool (clash h x)) ∧ Below w.heap.size w w' := by
  generalize hb : clash h x = b
  have hcs := holds_cases hb
  clear hb
  obtain ⟨i1, i2, i3, i4, i5, i6⟩ := h
  obtain ⟨x1, x2, x3, x4, x5, x6⟩ := x
  simp only at hcs
  rcases hcs with ⟨rfl, rfl | ⟨rfl, h2 | ⟨h2, h3 | ⟨h3, h4⟩⟩⟩⟩ | ⟨rfl, rfl, h2, h3, h4⟩
  all_goals
    go_enter Try.func128, Try.ntmps128
    go_wp2_with fail
    go_ret
    exact ⟨rfl, ((Below.refl _ _).alloc (Nat.le_refl _) _).alloc (by simp) _⟩
end Go.Proofs.Ytfbbjlhhkfdncaa
