/- Contracts of the package entry: row, front, Check. -/
import Derived.Test.YtfbbjlhhkfdncaaJt
set_option linter.unusedVariables false
set_option linter.unusedSimpArgs false
namespace Go.Proofs.Ytfbbjlhhkfdncaa
open Go.RowKit Go.Maps

abbrev lnv (l : Ln) : Value := .agg #[.int .i64 l.acc, .int .i64 l.amt, .int .i64 l.par]
theorem entity_is (n : Int) {b : Bool} (h : entB n = b) (w : World) : Calls Try.prog 145 #[.int .i64 n] w fun e w' => e = .returned (.bool b) ∧ w' = w := by
  have := entity_any n w
  rwa [h] at this

theorem row_bad {en : Int} {l : Ln} (he : 1 ≤ en) (h : rowBad en l = true) : l.acc < 1 ∨ 1 ≤ l.acc ∧ (9999 < l.acc ∨ l.acc ≤ 9999 ∧ ((l.amt == 0) = true ∧ (l.amt != 0) = false ∨ (l.amt != 0) = true ∧ ((l.par == 0) = false ∧ entB l.par = false ∨ (l.par == 0) = false ∧ entB l.par = true ∧ (l.par != en) = false))) := by
  rcases row_cases h with h | ⟨h1, h | ⟨h2, h | ⟨h3, h | ⟨h4, h | ⟨h5, h⟩⟩⟩⟩⟩
  · exact .inl h
  · exact .inr ⟨h1, .inl h⟩
  · exact .inr ⟨h1, .inr ⟨h2, .inl ⟨h, by simpa using h⟩⟩⟩
  all_goals
    have h3' : (l.amt != 0) = true := by simpa using h3
    refine .inr ⟨h1, .inr ⟨h2, .inr ⟨h3', ?_⟩⟩⟩
  · exact .inl ⟨by simp; omega, by simp [entB]; omega⟩
  · exact .inl ⟨by simp; omega, by simp [entB]; omega⟩
  · have h' : l.par = en := by simpa using h
    by_cases h9 : 9 < l.par
    · omega
    · exact .inr ⟨by simp; omega, by simp [entB]; omega, by simp [h']⟩
theorem row_good {en : Int} {l : Ln} (h : rowBad en l = false) : 1 ≤ l.acc ∧ l.acc ≤ 9999 ∧ (l.amt != 0) = true ∧ ((l.par == 0) = true ∨ (l.par == 0) = false ∧ entB l.par = true ∧ (l.par != en) = true) := by
  obtain ⟨h1, h2, h3, h4, h5, h6⟩ := row_ok h
  refine ⟨h1, h2, by simpa using h3, ?_⟩
  by_cases h0 : l.par = 0
  · exact .inl (by simp [h0])
  · exact .inr ⟨by simpa using h0, by simp [entB]; omega, by simpa using h6⟩

set_option maxHeartbeats 2000000 in
theorem erow_any (l : Ln) (en : Int) (he : 1 ≤ en) (w : World) : Calls Try.prog 114 #[lnv l, .int .i64 en] w fun e w' => e = .returned (.bool (!rowBad en l)) ∧ Below w.heap.size w w' := by
  cases hv : rowBad en l
  · obtain ⟨h1, h2, h3, h4⟩ := row_good hv
    clear hv
    obtain ⟨acc, amt, par⟩ := l
    simp only at h1 h2 h3 h4
    rcases h4 with h4 | ⟨h4, h5, h6⟩
    · go_enter Try.func114, Try.ntmps114
      go_wp2_with fail
      go_ret
      exact ⟨rfl, (Below.refl _ _).alloc (Nat.le_refl _) _⟩
    · have H5 := Lib.hid h5
      clear h5
      go_enter Try.func114, Try.ntmps114
      go_wp2_with fail
      refine (entity_is _ H5.out _).mono ?_
      rintro e w' ⟨rfl, rfl⟩
      go_wp2_with fail
      go_ret
      exact ⟨rfl, (Below.refl _ _).alloc (Nat.le_refl _) _⟩
  · have hb := row_bad he hv
    clear hv
    obtain ⟨acc, amt, par⟩ := l
    simp only at hb
    rcases hb with h | ⟨h1, h | ⟨h2, ⟨h, h0⟩ | ⟨h3, h | h⟩⟩⟩
    iterate 3
      go_enter Try.func114, Try.ntmps114
      go_wp2_with fail
      go_ret
      exact ⟨rfl, (Below.refl _ _).alloc (Nat.le_refl _) _⟩
    · obtain ⟨h4, h5⟩ := h
      have H5 := Lib.hid h5
      clear h5
      go_enter Try.func114, Try.ntmps114
      go_wp2_with fail
      refine (entity_is _ H5.out _).mono ?_
      rintro e w' ⟨rfl, rfl⟩
      go_wp2_with fail
      go_ret
      exact ⟨rfl, (Below.refl _ _).alloc (Nat.le_refl _) _⟩
    · obtain ⟨h4, h5, h6⟩ := h
      have H5 := Lib.hid h5
      clear h5
      go_enter Try.func114, Try.ntmps114
      go_wp2_with fail
      refine (entity_is _ H5.out _).mono ?_
      rintro e w' ⟨rfl, rfl⟩
      go_wp2_with fail
      go_ret
      exact ⟨rfl, (Below.refl _ _).alloc (Nat.le_refl _) _⟩
end Go.Proofs.Ytfbbjlhhkfdncaa
