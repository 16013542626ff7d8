/- The document's Check of a journal, walked. -/
import Derived.Test.YtacemlbfifhllaaGreatX03GatesPlay
set_option linter.unusedVariables false
set_option linter.unusedSimpArgs false
namespace Go.Proofs.YtacemlbfifhllaaGreat
open Go.RowKit Go.Maps

def refB (c : Int) : Bool := (decide (65 ≤ c) && decide (c ≤ 90)) || (decide (48 ≤ c) && decide (c ≤ 57))
def fitsB (a : Int) : Bool := decide (-1000000000000000 ≤ a) && decide (a ≤ 1000000000000000)

def frontBad (j : Jn) : Bool := decide (j.id < 1) || decide (999999 < j.id) || decide (j.en < 1) || decide (9 < j.en) || !monthOk j.pe || decide (8 < (j.ref.size : Int)) || decide ((j.lines.length : Int) < 2) || decide (8 < (j.lines.length : Int))
def refOk (r : ByteArray) : Bool := r.data.toList.all fun c => refB (c.toNat : Int)
def rowBad (en : Int) (l : Ln) : Bool := decide (l.acc < 1) || decide (9999 < l.acc) || l.amt == 0 || decide (l.par < 0) || decide (9 < l.par) || l.par == en
def sumA : List Ln → Int
  | [] => 0
  | l :: r => l.amt + sumA r
def chk (j : Jn) : Int := if frontBad j then 1 else if !refOk j.ref then 1 else if j.lines.any (rowBad j.en) then 1 else if j.lines.any (fun l => !fitsB l.amt) then 2 else if sumA j.lines != 0 then 3 else 0

theorem ref_valid_is (m : Int) {b : Bool} (h : monthOk m = b) (w : World) : Calls Tryz.prog 20 #[.int .i64 m] w fun e w' => e = .returned (.bool b) ∧ Below w.heap.size w w' := by
  have := ref_valid m w
  rw [h] at this
  exact this

abbrev jnv (j : Jn) (a : Option Addr) (cap : Nat) : Value := .agg #[.int .i64 j.id, .int .i64 j.en, .int .i64 j.pe, .string j.ref, .slice a j.lines.length cap, .bool j.void]

theorem front_cases {j : Jn} (h : frontBad j = true) : j.id < 1 ∨ 1 ≤ j.id ∧ (999999 < j.id ∨ j.id ≤ 999999 ∧ (j.en < 1 ∨ 1 ≤ j.en ∧ (9 < j.en ∨ j.en ≤ 9 ∧ (monthOk j.pe = false ∨ monthOk j.pe = true ∧ (8 < (j.ref.size : Int) ∨ (j.ref.size : Int) ≤ 8 ∧ ((j.lines.length : Int) < 2 ∨ 2 ≤ (j.lines.length : Int) ∧ 8 < (j.lines.length : Int))))))) := by
  simp only [frontBad, Bool.or_eq_true, decide_eq_true_eq, Bool.not_eq_true'] at h
  cases hm : monthOk j.pe with
  | false => simp only [true_or, and_true]; omega
  | true =>
    rw [hm] at h
    simp only [Bool.true_eq_false, or_false, false_or, true_and] at h ⊢
    omega
theorem front_ok {j : Jn} (h : frontBad j = false) : 1 ≤ j.id ∧ j.id ≤ 999999 ∧ 1 ≤ j.en ∧ j.en ≤ 9 ∧ monthOk j.pe = true ∧ (j.ref.size : Int) ≤ 8 ∧ 2 ≤ (j.lines.length : Int) ∧ (j.lines.length : Int) ≤ 8 := by
  simp only [frontBad, Bool.or_eq_false_iff, decide_eq_false_iff_not, Bool.not_eq_false'] at h
  refine ⟨?_, ?_, ?_, ?_, h.1.1.1.2, ?_, ?_, ?_⟩ <;> omega

theorem any_take_succ {α : Type} (p : α → Bool) (l : List α) (n : Nat) (hn : n < l.length) : (l.take (n + 1)).any p = ((l.take n).any p || p l[n]) := by
  rw [List.take_succ_eq_append_getElem hn, List.any_append]; simp
theorem sumA_take_succ (l : List Ln) (n : Nat) (hn : n < l.length) : sumA (l.take (n + 1)) = sumA (l.take n) + l[n].amt := by
  have : ∀ (a b : List Ln), sumA (a ++ b) = sumA a + sumA b := by
    intro a b
    induction a with
    | nil => simp [sumA]
    | cons x r ih => simp [sumA, ih]; omega
  rw [List.take_succ_eq_append_getElem hn, this]; simp [sumA]
theorem sum_bound : ∀ (l : List Ln), l.any (fun l => !fitsB l.amt) = false → -(1000000000000000 * (l.length : Int)) ≤ sumA l ∧ sumA l ≤ 1000000000000000 * (l.length : Int)
  | [], _ => by simp [sumA]
  | x :: r, h => by
    simp only [List.any_cons, Bool.or_eq_false_iff, Bool.not_eq_false'] at h
    have ih := sum_bound r h.2
    have hx := h.1
    simp [fitsB] at hx
    simp only [sumA, List.length_cons]
    omega

theorem row_cases {en : Int} {l : Ln} (h : rowBad en l = true) : l.acc < 1 ∨ 1 ≤ l.acc ∧ (9999 < l.acc ∨ l.acc ≤ 9999 ∧ ((l.amt == 0) = true ∨ (l.amt == 0) = false ∧ (l.par < 0 ∨ 0 ≤ l.par ∧ (9 < l.par ∨ l.par ≤ 9 ∧ (l.par == en) = true)))) := by
  simp only [rowBad, Bool.or_eq_true, decide_eq_true_eq] at h
  cases h1 : l.amt == 0 <;> cases h2 : l.par == en <;> simp only [h1, h2, Bool.true_eq_false, Bool.false_eq_true, or_false, false_or, or_true, true_or, and_false, false_and, and_true, true_and] at h ⊢ <;> omega
theorem row_ok {en : Int} {l : Ln} (h : rowBad en l = false) : 1 ≤ l.acc ∧ l.acc ≤ 9999 ∧ (l.amt == 0) = false ∧ 0 ≤ l.par ∧ l.par ≤ 9 ∧ (l.par == en) = false := by
  simp only [rowBad, Bool.or_eq_false_iff, decide_eq_false_iff_not] at h
  refine ⟨by omega, by omega, h.1.1.1.2, by omega, by omega, h.2⟩
theorem chk_ref {j : Jn} (hf : frontBad j = false) (h : refOk j.ref = false) : chk j = 1 := by simp [chk, hf, h]
theorem chk_row {j : Jn} (hf : frontBad j = false) (h : refOk j.ref = true) (hr : j.lines.any (rowBad j.en) = true) : chk j = 1 := by simp only [chk, hf, h, hr]; simp
theorem chk_fits {j : Jn} (hf : frontBad j = false) (h : refOk j.ref = true) (hr : j.lines.any (rowBad j.en) = false) (h2 : j.lines.any (fun l => !fitsB l.amt) = true) : chk j = 2 := by simp only [chk, hf, h, hr, h2]; simp
theorem chk_sum {j : Jn} (hf : frontBad j = false) (h : refOk j.ref = true) (hr : j.lines.any (rowBad j.en) = false) (h2 : j.lines.any (fun l => !fitsB l.amt) = false) : chk j = if sumA j.lines != 0 then 3 else 0 := by simp only [chk, hf, h, hr, h2]; simp
theorem any_at {α : Type} (p : α → Bool) (l : List α) (n : Nat) (hn : n < l.length) (h : p l[n] = true) : l.any p = true := List.any_eq_true.2 ⟨_, List.getElem_mem hn, h⟩
theorem refOk_at {r : ByteArray} (n : Nat) (hn : n < r.data.toList.length) (h : refB ((r.data.toList[n]).toNat : Int) = false) : refOk r = false := by
  unfold refOk
  rw [List.all_eq_false]
  exact ⟨_, List.getElem_mem hn, by rw [h]; simp⟩
theorem sum_take_bound {l : List Ln} (n : Nat) (hl : l.length ≤ 8) (h : (l.take n).any (fun l => !fitsB l.amt) = false) : -8000000000000000 ≤ sumA (l.take n) ∧ sumA (l.take n) ≤ 8000000000000000 := by
  have := sum_bound _ h
  have h2 : (l.take n).length ≤ 8 := by rw [List.length_take]; omega
  omega
theorem take_all {α : Type} {l : List α} {n : Nat} (hn : n ≤ l.length) (h : ¬ n < l.length) : l.take n = l := List.take_of_length_le (by omega)

end Go.Proofs.YtacemlbfifhllaaGreat


/- Contracts of the package entry: entity, named, row, front; money.Fits. -/
set_option linter.unusedVariables false
set_option linter.unusedSimpArgs false
namespace Go.Proofs.YtacemlbfifhllaaGreat
open Go.RowKit Go.Maps

def entB (n : Int) : Bool := decide (1 ≤ n) && decide (n ≤ 9)
def namedB (r : ByteArray) : Bool := refOk r && decide ((r.size : Int) ≤ 8)
theorem byte_cases {x : Nat} {b : Bool} (h : refB (x : Int) = b) : (b = false ∧ ((x : Int) < 48 ∧ (x : Int) < 65 ∨ 57 < (x : Int) ∧ 48 ≤ (x : Int) ∧ (x : Int) < 65 ∨ 65 ≤ (x : Int) ∧ 90 < (x : Int) ∧ 48 ≤ (x : Int) ∧ 57 < (x : Int))) ∨
    (b = true ∧ (48 ≤ (x : Int) ∧ (x : Int) ≤ 57 ∧ (x : Int) < 65 ∨ 65 ≤ (x : Int) ∧ (x : Int) ≤ 90)) := by
  subst h
  cases h : refB (x : Int)
  · simp [refB] at h
    simp
    omega
  · simp [refB] at h
    simp
    omega

end Go.Proofs.YtacemlbfifhllaaGreat


/- Contracts of the package entry: row, front, Check. -/
set_option linter.unusedVariables false
set_option linter.unusedSimpArgs false
namespace Go.Proofs.YtacemlbfifhllaaGreat
open Go.RowKit Go.Maps

abbrev lnv (l : Ln) : Value := .agg #[.int .i64 l.acc, .int .i64 l.amt, .int .i64 l.par]
theorem row_bad {en : Int} {l : Ln} (he : 1 ≤ en) (h : rowBad en l = true) : l.acc < 1 ∨ 1 ≤ l.acc ∧ (9999 < l.acc ∨ l.acc ≤ 9999 ∧ ((l.amt == 0) = true ∧ (l.amt != 0) = false ∨ (l.amt != 0) = true ∧ ((l.par == 0) = false ∧ entB l.par = false ∨ (l.par == 0) = false ∧ entB l.par = true ∧ (l.par != en) = false))) := by
  rcases row_cases h with h | ⟨h1, h | ⟨h2, h | ⟨h3, h | ⟨h4, h | ⟨h5, h⟩⟩⟩⟩⟩
  · exact .inl h
  · exact .inr ⟨h1, .inl h⟩
  · exact .inr ⟨h1, .inr ⟨h2, .inl ⟨h, by simpa using h⟩⟩⟩
  all_goals
    have h3' : (l.amt != 0) = true := by simpa using h3
    refine .inr ⟨h1, .inr ⟨h2, .inr ⟨h3', ?_⟩⟩⟩
  · exact .inl ⟨by simp; omega, by simp [entB]; omega⟩
  · exact .inl ⟨by simp; omega, by simp [entB]; omega⟩
  · have h' : l.par = en := by simpa using h
    by_cases h9 : 9 < l.par
    · omega
    · exact .inr ⟨by simp; omega, by simp [entB]; omega, by simp [h']⟩
theorem row_good {en : Int} {l : Ln} (h : rowBad en l = false) : 1 ≤ l.acc ∧ l.acc ≤ 9999 ∧ (l.amt != 0) = true ∧ ((l.par == 0) = true ∨ (l.par == 0) = false ∧ entB l.par = true ∧ (l.par != en) = true) := by
  obtain ⟨h1, h2, h3, h4, h5, h6⟩ := row_ok h
  refine ⟨h1, h2, by simpa using h3, ?_⟩
  by_cases h0 : l.par = 0
  · exact .inl (by simp [h0])
  · exact .inr ⟨by simpa using h0, by simp [entB]; omega, by simpa using h6⟩

end Go.Proofs.YtacemlbfifhllaaGreat


/- Contracts of the package entry: front, Check. -/
set_option linter.unusedVariables false
set_option linter.unusedSimpArgs false
namespace Go.Proofs.YtacemlbfifhllaaGreat
open Go.RowKit Go.Maps

def frontE (j : Jn) : Bool := !frontBad j && refOk j.ref
theorem frontE_bad {j : Jn} (h : frontE j = false) : j.id < 1 ∨ 1 ≤ j.id ∧ (999999 < j.id ∨ j.id ≤ 999999 ∧ (entB j.en = false ∨ entB j.en = true ∧ (monthOk j.pe = false ∨ monthOk j.pe = true ∧ (namedB j.ref = false ∨ namedB j.ref = true ∧ ((j.lines.length : Int) < 2 ∨ 2 ≤ (j.lines.length : Int) ∧ 8 < (j.lines.length : Int)))))) := by
  have h' : frontBad j = true ∨ refOk j.ref = false := by
    simp only [frontE, Bool.and_eq_false_iff, Bool.not_eq_false'] at h
    exact h
  by_cases a1 : j.id < 1
  · exact .inl a1
  refine .inr ⟨by omega, ?_⟩
  by_cases a2 : 999999 < j.id
  · exact .inl a2
  refine .inr ⟨by omega, ?_⟩
  cases a3 : entB j.en
  · exact .inl rfl
  refine .inr ⟨rfl, ?_⟩
  cases a4 : monthOk j.pe
  · exact .inl rfl
  refine .inr ⟨rfl, ?_⟩
  cases a5 : namedB j.ref
  · exact .inl rfl
  refine .inr ⟨rfl, ?_⟩
  by_cases a6 : (j.lines.length : Int) < 2
  · exact .inl a6
  refine .inr ⟨by omega, ?_⟩
  have a5' : refOk j.ref = true ∧ (j.ref.size : Int) ≤ 8 := by simpa [namedB] using a5
  have a3' : 1 ≤ j.en ∧ j.en ≤ 9 := by simpa [entB] using a3
  rcases h' with h' | h'
  · have hf := front_cases h'
    rw [a4] at hf
    simp only [Bool.true_eq_false, false_or, true_and] at hf
    omega
  · rw [a5'.1] at h'; cases h'
theorem frontE_ok {j : Jn} (h : frontE j = true) : 1 ≤ j.id ∧ j.id ≤ 999999 ∧ entB j.en = true ∧ monthOk j.pe = true ∧ namedB j.ref = true ∧ 2 ≤ (j.lines.length : Int) ∧ (j.lines.length : Int) ≤ 8 := by
  simp only [frontE, Bool.and_eq_true, Bool.not_eq_true'] at h
  obtain ⟨h1, h2, h3, h4, h5, h6, h7, h8⟩ := front_ok h.1
  exact ⟨h1, h2, by simp [entB, h3, h4], h5, by simp [namedB, h.2]; omega, h7, h8⟩
theorem term_valid_is (m : Int) (b : Nat) (w : World) (hm : w.heap[b]? = some (.cells #[.int .i64 m] 3 (0, 0))) (hw : (Lit.int .i64 m).wf = true) {x : Bool} (h : monthOk m = x) :
    Calls Tryz.prog 66 #[.slice (some ⟨b, 0, none⟩) 1 1] w fun e w' => e = .returned (.bool x) ∧ Below w.heap.size w w' := by
  have := term_valid1 m b w hm hw
  rwa [h] at this

end Go.Proofs.YtacemlbfifhllaaGreat


/- Contract of entry.Check. -/
set_option linter.unusedVariables false
set_option linter.unusedSimpArgs false
namespace Go.Proofs.YtacemlbfifhllaaGreat
open Go.RowKit Go.Maps

theorem chk_front {j : Jn} (h : frontE j = false) : chk j = 1 := by
  simp only [frontE, Bool.and_eq_false_iff, Bool.not_eq_false'] at h
  rcases h with h | h
  · simp [chk, h]
  · simp [chk, h]

end Go.Proofs.YtacemlbfifhllaaGreat
