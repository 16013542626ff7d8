/- Contracts of the package entry: entity, named, row, front; money.Fits. -/
import Derived.Test.YtapmedcgfnlchaaGreatX05SheetHolds
set_option linter.unusedVariables false
set_option linter.unusedSimpArgs false
namespace Go.Proofs.YtapmedcgfnlchaaGreat
open Go.RowKit Go.Maps

set_option maxHeartbeats 1000000 in
theorem mfits_any (a : Option Addr) (cap : Nat) (l : List Int) (w : World) {F : Nat → Prop} (hl : l.length ≤ 140737488351232) (hs : Sl tInt w F a l) :
    Calls Tryz.prog 36 #[.slice a l.length cap] w fun e w' => e = .returned (.bool (l.all fitsB)) ∧ w' = w := by
  have HL := Lib.hid hs
  clear hs
  go_enter Tryz.func36, Tryz.ntmps36
  go_wp2_with fail
  go_loopw [7] (fun vi wr => ∃ n : Nat, n ≤ l.length ∧ vi = .int .i64 n ∧ Hid ((l.take n).all fitsB = true) ∧ wr = w) (fun vi _ => l.length - (intOf vi).toNat)
  case atStart => exact ⟨0, Nat.zero_le _, rfl, rfl, rfl⟩
  case round =>
    obtain ⟨n, hn, rfl, hall, rfl⟩ := hrel
    by_cases hlt : n < l.length
    · obtain ⟨ad, rfl, hadl, hc0⟩ := int_at HL.out n hlt
      cases hv : fitsB l[n]
      · have hres : l.all fitsB = false := by
          rw [List.all_eq_false]
          exact ⟨l[n], List.getElem_mem hlt, by simp [hv]⟩
        have HR := Lib.hid hres
        clear hres
        have hbd : l[n] < -1000000000000000 ∨ -1000000000000000 ≤ l[n] ∧ 1000000000000000 < l[n] := by
          simp [fitsB] at hv
          omega
        clear hv
        rcases hbd with h | ⟨h1, h⟩
        all_goals
          go_wp2_with fail
          go_ret
          rw [HR.out]
          exact ⟨rfl, rfl⟩
      · have hnext := (all_take_succ fitsB l n hlt).trans (by rw [hall.out, hv]; try rfl)
        have HN := Lib.hid hnext
        have hbd : -1000000000000000 ≤ l[n] ∧ l[n] ≤ 1000000000000000 := by simpa [fitsB] using hv
        obtain ⟨hb1, hb2⟩ := hbd
        clear hnext hv
        go_wp2_with fail
        go_roundw
        case rel => exact ⟨n + 1, by omega, by go_num, HN.out, by first | rfl | trivial⟩
        case measure => simp [intOf]; omega
    · have hres : l.all fitsB = true := by
        have := hall.out
        rwa [List.take_of_length_le (by omega)] at this
      have HR := Lib.hid hres
      clear hres
      go_wp2_with fail
      go_ret
      rw [HR.out]
      exact ⟨rfl, rfl⟩

theorem mfits1 (m : Int) (b : Nat) (w : World) (hm : w.heap[b]? = some (.cells #[.int .i64 m] 3 (0, 0))) (hw : (Lit.int .i64 m).wf = true) :
    Calls Tryz.prog 36 #[.slice (some ⟨b, 0, none⟩) 1 1] w fun e w' => e = .returned (.bool (fitsB m)) ∧ w' = w := by
  have h := mfits_any (some ⟨b, 0, none⟩) 1 [m] w (by simp only [List.length_cons, List.length_nil]; omega) (sl_one m b w hm hw)
  have e1 : [m].all fitsB = fitsB m := by simp
  rw [e1] at h
  exact h

def entB (n : Int) : Bool := decide (1 ≤ n) && decide (n ≤ 9)
theorem entity_any (n : Int) (w : World) : Calls Tryz.prog 97 #[.int .i64 n] w fun e w' => e = .returned (.bool (entB n)) ∧ w' = w := by
  go_enter Tryz.func97, Tryz.ntmps97
  go_wp2
  all_goals
    go_ret
    refine ⟨?_, rfl⟩
    (first | (simp [entB, *]; done) | (simp [entB] at *; grind) | (simp_all [entB]; done))

def namedB (r : ByteArray) : Bool := refOk r && decide ((r.size : Int) ≤ 8)
theorem byte_cases {x : Nat} {b : Bool} (h : refB (x : Int) = b) : (b = false ∧ ((x : Int) < 48 ∧ (x : Int) < 65 ∨ 57 < (x : Int) ∧ 48 ≤ (x : Int) ∧ (x : Int) < 65 ∨ 65 ≤ (x : Int) ∧ 90 < (x : Int) ∧ 48 ≤ (x : Int) ∧ 57 < (x : Int))) ∨
    (b = true ∧ (48 ≤ (x : Int) ∧ (x : Int) ≤ 57 ∧ (x : Int) < 65 ∨ 65 ≤ (x : Int) ∧ (x : Int) ≤ 90)) := by
  subst h
  cases h : refB (x : Int)
  · simp [refB] at h
    simp
    omega
  · simp [refB] at h
    simp
    omega

set_option maxHeartbeats 2000000 in
theorem named_any (r : ByteArray) (hsz : r.size ≤ 140737488351232) (w : World) : Calls Tryz.prog 98 #[.string r] w fun e w' => e = .returned (.bool (namedB r)) ∧ w' = w := by
  generalize hres : namedB r = res
  have HC := Lib.hid hres
  clear hres
  go_enter Tryz.func98, Tryz.ntmps98
  go_wp2_with fail
  go_loopw [7] (fun vi wr => ∃ n : Nat, n ≤ r.size ∧ vi = .int .i64 n ∧ Hid ((r.data.toList.take n).all (fun c => refB (c.toNat : Int)) = true) ∧ wr = w) (fun vi _ => r.size - (intOf vi).toNat)
  case atStart => exact ⟨0, Nat.zero_le _, rfl, rfl, rfl⟩
  case round =>
    obtain ⟨n, hn, rfl, hall, rfl⟩ := hrel
    by_cases hlt : n < r.size
    · have hlt' : n < r.data.toList.length := by rw [Array.length_toList]; exact hlt
      have HLT := Lib.hid (show n + 1 ≤ r.size ∧ True from ⟨hlt, trivial⟩)
      have hget : r.data.toList[n] = r[n] := by rw [Array.getElem_toList]; rfl
      cases hv : refB ((r[n]).toNat : Int)
      · have hr : res = false := by
          rw [← HC.out]
          simp [namedB, refOk_at n hlt' (by rw [hget]; exact hv)]
        have HR := Lib.hid hr
        have hb := byte_cases hv
        simp only [true_and, Bool.false_eq_true, false_and, or_false] at hb
        clear hr hget hv
        rcases hb with ⟨h1, h2⟩ | ⟨h1, h2, h3⟩ | ⟨h1, h2, h3, h4⟩
        all_goals
          go_wp2_with fail
          go_ret
          rw [HR.out]
          exact ⟨rfl, rfl⟩
      · have hnext := (all_take_succ (fun c : UInt8 => refB (c.toNat : Int)) _ n hlt').trans (by rw [hall.out, hget, hv]; try rfl)
        have HN := Lib.hid hnext
        have hb := byte_cases hv
        simp only [true_and, Bool.true_eq_false, false_and, false_or] at hb
        clear hnext hget hv
        rcases hb with ⟨h1, h2, h3⟩ | ⟨h1, h2⟩
        all_goals
          go_wp2_with fail
          go_roundw
          case rel => exact ⟨n + 1, HLT.out.1, by go_num, HN.out, by first | rfl | trivial⟩
          case measure => have := HLT.out.1; simp [intOf]; omega
    · have hro : refOk r = true := by
        have := hall.out
        rwa [List.take_of_length_le (by rw [Array.length_toList]; exact Nat.le_of_not_lt hlt)] at this
      have hr : res = decide ((r.size : Int) ≤ 8) := by
        rw [← HC.out]
        simp only [namedB, hro, Bool.true_and]
      have HR := Lib.hid hr
      clear hr hro
      go_wp2_with fail
      go_ret
      rw [HR.out]
      exact ⟨rfl, rfl⟩
end Go.Proofs.YtapmedcgfnlchaaGreat


/- Contracts of the package entry: row, front, Check. -/
set_option linter.unusedVariables false
set_option linter.unusedSimpArgs false
namespace Go.Proofs.YtapmedcgfnlchaaGreat
open Go.RowKit Go.Maps

abbrev lnv (l : Ln) : Value := .agg #[.int .i64 l.acc, .int .i64 l.amt, .int .i64 l.par]
theorem entity_is (n : Int) {b : Bool} (h : entB n = b) (w : World) : Calls Tryz.prog 97 #[.int .i64 n] w fun e w' => e = .returned (.bool b) ∧ w' = w := by
  have := entity_any n w
  rwa [h] at this

theorem row_bad {en : Int} {l : Ln} (he : 1 ≤ en) (h : rowBad en l = true) : l.acc < 1 ∨ 1 ≤ l.acc ∧ (9999 < l.acc ∨ l.acc ≤ 9999 ∧ ((l.amt == 0) = true ∧ (l.amt != 0) = false ∨ (l.amt != 0) = true ∧ ((l.par == 0) = false ∧ entB l.par = false ∨ (l.par == 0) = false ∧ entB l.par = true ∧ (l.par != en) = false))) := by
  rcases row_cases h with h | ⟨h1, h | ⟨h2, h | ⟨h3, h | ⟨h4, h | ⟨h5, h⟩⟩⟩⟩⟩
  · exact .inl h
  · exact .inr ⟨h1, .inl h⟩
  · exact .inr ⟨h1, .inr ⟨h2, .inl ⟨h, by simpa using h⟩⟩⟩
  all_goals
    have h3' : (l.amt != 0) = true := by simpa using h3
    refine .inr ⟨h1, .inr ⟨h2, .inr ⟨h3', ?_⟩⟩⟩
  · exact .inl ⟨by simp; omega, by simp [entB]; omega⟩
  · exact .inl ⟨by simp; omega, by simp [entB]; omega⟩
  · have h' : l.par = en := by simpa using h
    by_cases h9 : 9 < l.par
    · omega
    · exact .inr ⟨by simp; omega, by simp [entB]; omega, by simp [h']⟩
theorem row_good {en : Int} {l : Ln} (h : rowBad en l = false) : 1 ≤ l.acc ∧ l.acc ≤ 9999 ∧ (l.amt != 0) = true ∧ ((l.par == 0) = true ∨ (l.par == 0) = false ∧ entB l.par = true ∧ (l.par != en) = true) := by
  obtain ⟨h1, h2, h3, h4, h5, h6⟩ := row_ok h
  refine ⟨h1, h2, by simpa using h3, ?_⟩
  by_cases h0 : l.par = 0
  · exact .inl (by simp [h0])
  · exact .inr ⟨by simpa using h0, by simp [entB]; omega, by simpa using h6⟩

set_option maxHeartbeats 2000000 in
theorem erow_any (l : Ln) (en : Int) (he : 1 ≤ en) (w : World) : Calls Tryz.prog 73 #[lnv l, .int .i64 en] w fun e w' => e = .returned (.bool (!rowBad en l)) ∧ Below w.heap.size w w' := by
  cases hv : rowBad en l
  · obtain ⟨h1, h2, h3, h4⟩ := row_good hv
    clear hv
    obtain ⟨acc, amt, par⟩ := l
    simp only at h1 h2 h3 h4
    rcases h4 with h4 | ⟨h4, h5, h6⟩
    · go_enter Tryz.func73, Tryz.ntmps73
      go_wp2_with fail
      go_ret
      exact ⟨rfl, (Below.refl _ _).alloc (Nat.le_refl _) _⟩
    · have H5 := Lib.hid h5
      clear h5
      go_enter Tryz.func73, Tryz.ntmps73
      go_wp2_with fail
      refine (entity_is _ H5.out _).mono ?_
      rintro e w' ⟨rfl, rfl⟩
      go_wp2_with fail
      go_ret
      exact ⟨rfl, (Below.refl _ _).alloc (Nat.le_refl _) _⟩
  · have hb := row_bad he hv
    clear hv
    obtain ⟨acc, amt, par⟩ := l
    simp only at hb
    rcases hb with h | ⟨h1, h | ⟨h2, ⟨h, h0⟩ | ⟨h3, h | h⟩⟩⟩
    iterate 3
      go_enter Tryz.func73, Tryz.ntmps73
      go_wp2_with fail
      go_ret
      exact ⟨rfl, (Below.refl _ _).alloc (Nat.le_refl _) _⟩
    · obtain ⟨h4, h5⟩ := h
      have H5 := Lib.hid h5
      clear h5
      go_enter Tryz.func73, Tryz.ntmps73
      go_wp2_with fail
      refine (entity_is _ H5.out _).mono ?_
      rintro e w' ⟨rfl, rfl⟩
      go_wp2_with fail
      go_ret
      exact ⟨rfl, (Below.refl _ _).alloc (Nat.le_refl _) _⟩
    · obtain ⟨h4, h5, h6⟩ := h
      have H5 := Lib.hid h5
      clear h5
      go_enter Tryz.func73, Tryz.ntmps73
      go_wp2_with fail
      refine (entity_is _ H5.out _).mono ?_
      rintro e w' ⟨rfl, rfl⟩
      go_wp2_with fail
      go_ret
      exact ⟨rfl, (Below.refl _ _).alloc (Nat.le_refl _) _⟩
end Go.Proofs.YtapmedcgfnlchaaGreat
