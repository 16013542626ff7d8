/- The document's Check of a journal, walked. -/
import Derived.Test.YtgggpaacagbmcaaGreatX01GroupInner
set_option linter.unusedVariables false
set_option linter.unusedSimpArgs false
namespace Go.Proofs.YtgggpaacagbmcaaGreat
open Go.RowKit Go.Maps

def refB (c : Int) : Bool := (decide (65 ≤ c) && decide (c ≤ 90)) || (decide (48 ≤ c) && decide (c ≤ 57))
def fitsB (a : Int) : Bool := decide (-1000000000000000 ≤ a) && decide (a ≤ 1000000000000000)

theorem refByte_any (c : Int) (h0 : 0 ≤ c) (h1 : c ≤ 255) (w : World) : Calls Tryz.prog 152 #[.int .u8 c] w fun e w' => e = .returned (.bool (refB c)) ∧ w' = w := by
  go_enter Tryz.func152, Tryz.ntmps152
  go_wp2
  all_goals
    go_ret
    refine ⟨?_, rfl⟩
    (first | (simp [refB, *]; done) | (simp [refB] at *; grind) | (simp_all [refB]; done))
theorem rfits_any (a : Int) (w : World) : Calls Tryz.prog 20 #[.int .i64 a] w fun e w' => e = .returned (.bool (fitsB a)) ∧ w' = w := by
  go_enter Tryz.func20, Tryz.ntmps20
  go_wp2
  all_goals
    go_ret
    refine ⟨?_, rfl⟩
    (first | (simp [fitsB, *]; done) | (simp [fitsB] at *; grind) | (simp_all [fitsB]; done))

def frontBad (j : Jn) : Bool := decide (j.id < 1) || decide (999999 < j.id) || decide (j.en < 1) || decide (9 < j.en) || !monthOk j.pe || decide (8 < (j.ref.size : Int)) || decide ((j.lines.length : Int) < 2) || decide (8 < (j.lines.length : Int))
def refOk (r : ByteArray) : Bool := r.data.toList.all fun c => refB (c.toNat : Int)
def rowBad (en : Int) (l : Ln) : Bool := decide (l.acc < 1) || decide (9999 < l.acc) || l.amt == 0 || decide (l.par < 0) || decide (9 < l.par) || l.par == en
def sumA : List Ln → Int
  | [] => 0
  | l :: r => l.amt + sumA r
def chk (j : Jn) : Int := if frontBad j then 1 else if !refOk j.ref then 1 else if j.lines.any (rowBad j.en) then 1 else if j.lines.any (fun l => !fitsB l.amt) then 2 else if sumA j.lines != 0 then 3 else 0

theorem ref_valid_is (m : Int) {b : Bool} (h : monthOk m = b) (w : World) : Calls Tryz.prog 14 #[.int .i64 m] w fun e w' => e = .returned (.bool b) ∧ Below w.heap.size w w' := by
  have := ref_valid m w
  rw [h] at this
  exact this

abbrev jnv (j : Jn) (a : Option Addr) (cap : Nat) : Value := .agg #[.int .i64 j.id, .int .i64 j.en, .int .i64 j.pe, .string j.ref, .slice a j.lines.length cap, .bool j.void]

theorem front_cases {j : Jn} (h : frontBad j = true) : j.id < 1 ∨ 1 ≤ j.id ∧ (999999 < j.id ∨ j.id ≤ 999999 ∧ (j.en < 1 ∨ 1 ≤ j.en ∧ (9 < j.en ∨ j.en ≤ 9 ∧ (monthOk j.pe = false ∨ monthOk j.pe = true ∧ (8 < (j.ref.size : Int) ∨ (j.ref.size : Int) ≤ 8 ∧ ((j.lines.length : Int) < 2 ∨ 2 ≤ (j.lines.length : Int) ∧ 8 < (j.lines.length : Int))))))) := by
  simp only [frontBad, Bool.or_eq_true, decide_eq_true_eq, Bool.not_eq_true'] at h
  cases hm : monthOk j.pe with
  | false => simp only [true_or, and_true]; omega
  | true =>
    rw [hm] at h
    simp only [Bool.true_eq_false, or_false, false_or, true_and] at h ⊢
    omega
theorem front_ok {j : Jn} (h : frontBad j = false) : 1 ≤ j.id ∧ j.id ≤ 999999 ∧ 1 ≤ j.en ∧ j.en ≤ 9 ∧ monthOk j.pe = true ∧ (j.ref.size : Int) ≤ 8 ∧ 2 ≤ (j.lines.length : Int) ∧ (j.lines.length : Int) ≤ 8 := by
  simp only [frontBad, Bool.or_eq_false_iff, decide_eq_false_iff_not, Bool.not_eq_false'] at h
  refine ⟨?_, ?_, ?_, ?_, h.1.1.1.2, ?_, ?_, ?_⟩ <;> omega

set_option maxHeartbeats 2000000 in
theorem rcheck_front (j : Jn) (a : Option Addr) (cap : Nat) (w : World) (h : frontBad j = true) :
    Calls Tryz.prog 127 #[jnv j a cap] w fun e w' => e = .returned (.int .i64 1) ∧ Below w.heap.size w w' := by
  obtain ⟨id, en, pe, ref, lines, void⟩ := j
  have hf := front_cases h
  simp only at hf
  clear h
  rcases hf with h | ⟨h1, h | ⟨h2, h | ⟨h3, h | ⟨h4, h⟩⟩⟩⟩
  iterate 4
    go_enter Tryz.func127, Tryz.ntmps127
    go_wp2_with fail
    go_ret
    exact ⟨rfl, (Below.refl _ _).alloc (Nat.le_refl _) _⟩
  rcases h with h | ⟨h5, h⟩
  · have H := Lib.hid h
    clear h
    go_enter Tryz.func127, Tryz.ntmps127
    go_wp2_with fail
    refine (ref_valid_is _ H.out _).mono ?_
    rintro e w1 ⟨rfl, hb⟩
    go_wp2_with fail
    go_ret
    exact ⟨rfl, belows_then ((Below.refl w.heap.size w).alloc (Nat.le_refl _) _) (by simp) hb⟩
  have H := Lib.hid h5
  clear h5
  rcases h with h | ⟨h6, h | ⟨h7, h⟩⟩
  all_goals
    go_enter Tryz.func127, Tryz.ntmps127
    go_wp2_with fail
    refine (ref_valid_is _ H.out _).mono ?_
    rintro e w1 ⟨rfl, hb⟩
    have hc := blk_cells (blk_below (blk_new w _) hb)
    have HB := Lib.hid (belows_then ((Below.refl w.heap.size w).alloc (Nat.le_refl _) _) (by simp) hb)
    clear hb
    go_wp2_with fail
    go_ret
    exact ⟨rfl, HB.out⟩

theorem any_take_succ {α : Type} (p : α → Bool) (l : List α) (n : Nat) (hn : n < l.length) : (l.take (n + 1)).any p = ((l.take n).any p || p l[n]) := by
  rw [List.take_succ_eq_append_getElem hn, List.any_append]; simp
theorem sumA_take_succ (l : List Ln) (n : Nat) (hn : n < l.length) : sumA (l.take (n + 1)) = sumA (l.take n) + l[n].amt := by
  have : ∀ (a b : List Ln), sumA (a ++ b) = sumA a + sumA b := by
    intro a b
    induction a with
    | nil => simp [sumA]
    | cons x r ih => simp [sumA, ih]; omega
  rw [List.take_succ_eq_append_getElem hn, this]; simp [sumA]
theorem sum_bound : ∀ (l : List Ln), l.any (fun l => !fitsB l.amt) = false → -(1000000000000000 * (l.length : Int)) ≤ sumA l ∧ sumA l ≤ 1000000000000000 * (l.length : Int)
  | [], _ => by simp [sumA]
  | x :: r, h => by
    simp only [List.any_cons, Bool.or_eq_false_iff, Bool.not_eq_false'] at h
    have ih := sum_bound r h.2
    have hx := h.1
    simp [fitsB] at hx
    simp only [sumA, List.length_cons]
    omega

theorem row_cases {en : Int} {l : Ln} (h : rowBad en l = true) : l.acc < 1 ∨ 1 ≤ l.acc ∧ (9999 < l.acc ∨ l.acc ≤ 9999 ∧ ((l.amt == 0) = true ∨ (l.amt == 0) = false ∧ (l.par < 0 ∨ 0 ≤ l.par ∧ (9 < l.par ∨ l.par ≤ 9 ∧ (l.par == en) = true)))) := by
  simp only [rowBad, Bool.or_eq_true, decide_eq_true_eq] at h
  cases h1 : l.amt == 0 <;> cases h2 : l.par == en <;> simp only [h1, h2, Bool.true_eq_false, Bool.false_eq_true, or_false, false_or, or_true, true_or, and_false, false_and, and_true, true_and] at h ⊢ <;> omega
theorem row_ok {en : Int} {l : Ln} (h : rowBad en l = false) : 1 ≤ l.acc ∧ l.acc ≤ 9999 ∧ (l.amt == 0) = false ∧ 0 ≤ l.par ∧ l.par ≤ 9 ∧ (l.par == en) = false := by
  simp only [rowBad, Bool.or_eq_false_iff, decide_eq_false_iff_not] at h
  refine ⟨by omega, by omega, h.1.1.1.2, by omega, by omega, h.2⟩
theorem chk_ref {j : Jn} (hf : frontBad j = false) (h : refOk j.ref = false) : chk j = 1 := by simp [chk, hf, h]
theorem chk_row {j : Jn} (hf : frontBad j = false) (h : refOk j.ref = true) (hr : j.lines.any (rowBad j.en) = true) : chk j = 1 := by simp only [chk, hf, h, hr]; simp
theorem chk_fits {j : Jn} (hf : frontBad j = false) (h : refOk j.ref = true) (hr : j.lines.any (rowBad j.en) = false) (h2 : j.lines.any (fun l => !fitsB l.amt) = true) : chk j = 2 := by simp only [chk, hf, h, hr, h2]; simp
theorem chk_sum {j : Jn} (hf : frontBad j = false) (h : refOk j.ref = true) (hr : j.lines.any (rowBad j.en) = false) (h2 : j.lines.any (fun l => !fitsB l.amt) = false) : chk j = if sumA j.lines != 0 then 3 else 0 := by simp only [chk, hf, h, hr, h2]; simp
theorem any_at {α : Type} (p : α → Bool) (l : List α) (n : Nat) (hn : n < l.length) (h : p l[n] = true) : l.any p = true := List.any_eq_true.2 ⟨_, List.getElem_mem hn, h⟩
theorem refOk_at {r : ByteArray} (n : Nat) (hn : n < r.data.toList.length) (h : refB ((r.data.toList[n]).toNat : Int) = false) : refOk r = false := by
  unfold refOk
  rw [List.all_eq_false]
  exact ⟨_, List.getElem_mem hn, by rw [h]; simp⟩
theorem sum_take_bound {l : List Ln} (n : Nat) (hl : l.length ≤ 8) (h : (l.take n).any (fun l => !fitsB l.amt) = false) : -8000000000000000 ≤ sumA (l.take n) ∧ sumA (l.take n) ≤ 8000000000000000 := by
  have := sum_bound _ h
  have h2 : (l.take n).length ≤ 8 := by rw [List.length_take]; omega
  omega
theorem take_all {α : Type} {l : List α} {n : Nat} (hn : n ≤ l.length) (h : ¬ n < l.length) : l.take n = l := List.take_of_length_le (by omega)

set_option maxHeartbeats 4000000 in
set_option maxRecDepth 100000 in
theorem rcheck_rest (j : Jn) (a : Option Addr) (cap : Nat) (w : World) {F : Nat → Prop} (hf : frontBad j = false) (hs : Sl tLn w F a j.lines) :
    Calls Tryz.prog 127 #[jnv j a cap] w fun e w' => e = .returned (.int .i64 (chk j)) ∧ Below w.heap.size w w' := by
  obtain ⟨q1, q2, q3, q4, q5, q6, q7, q8⟩ := front_ok hf
  have Q5 := Lib.hid q5
  have HS := Lib.hid hs
  have HF := Lib.hid hf
  clear q5 hs hf
  obtain ⟨id, en, pe, ref, lines, void⟩ := j
  simp only at q1 q2 q3 q4 q6 q7 q8 HS Q5
  generalize hck : chk ⟨id, en, pe, ref, lines, void⟩ = res
  have HC := Lib.hid hck
  clear hck
  go_enter Tryz.func127, Tryz.ntmps127
  go_wp2_with fail
  refine (ref_valid_is _ Q5.out _).mono ?_
  rintro e w1 ⟨rfl, hb⟩
  have hj := blk_below (blk_new w _) hb
  have HB := Lib.hid (belows_then ((Below.refl w.heap.size w).alloc (Nat.le_refl _) _) (by simp) hb)
  have HJ := Lib.hid hj
  have hc := blk_cells hj
  clear hb hj
  have HLT := Lib.hid (blk_lt HJ.out)
  go_wp2_with fail
  clear Q5
  go_loopw [3] (fun vi wr => ∃ n : Nat, n ≤ ref.size ∧ vi = .int .i64 n ∧ Hid ((ref.data.toList.take n).all (fun c => refB (c.toNat : Int)) = true) ∧ wr = w1) (fun vi _ => ref.size - (Go.RowKit.intOf vi).toNat)
  case atStart => exact ⟨0, Nat.zero_le _, rfl, rfl, rfl⟩
  case round =>
    obtain ⟨n, hn, rfl, hall, rfl⟩ := hrel
    by_cases hlt : n < ref.size
    · go_wp2_with fail
      refine (refByte_any _ (by omega) (by have := (ref[n]).toNat_lt; omega) _).mono ?_
      rintro e w' ⟨rfl, rfl⟩
      have hlt' : n < ref.data.toList.length := by rw [Array.length_toList]; exact hlt
      have hget : ref.data.toList[n] = ref[n] := by rw [Array.getElem_toList]; rfl
      cases hv : refB ((ref[n]).toNat : Int)
      · have hres : res = 1 := HC.out.symm.trans (chk_ref HF.out (refOk_at n hlt' (by rw [hget]; exact hv)))
        have HR := Lib.hid hres
        clear hres hget
        go_wp2_with fail
        go_ret
        rw [HR.out]
        exact ⟨rfl, HB.out⟩
      · have hnext := (all_take_succ (fun c : UInt8 => refB (c.toNat : Int)) _ n hlt').trans (by rw [hall.out, hget, hv]; try rfl)
        have HN := Lib.hid hnext
        clear hnext hget
        go_wp2_with fail
        go_roundw
        case rel => exact ⟨n + 1, by omega, by go_num, HN.out, by first | rfl | trivial⟩
        case measure => simp [Go.RowKit.intOf]; omega
    · have hro : refOk ref = true := by
        have := hall.out
        rwa [List.take_of_length_le (by rw [Array.length_toList]; exact Nat.le_of_not_lt hlt)] at this
      have HRO := Lib.hid hro
      clear hro hall
      go_wp2_with fail
      clear hc
      go_loopw [4] (fun vi wr2 => ∃ n : Nat, n ≤ lines.length ∧ vi = .int .i64 n ∧ Hid ((lines.take n).any (rowBad en) = false) ∧ Below w.heap.size w wr2 ∧ wr2.heap[w.heap.size]? = some (.cells #[.int .i64 id, .int .i64 en, .int .i64 pe, .string ref, .slice a lines.length cap, .bool void] 81 (0, 0))) (fun vi _ => lines.length - (Go.RowKit.intOf vi).toNat)
      case atStart => exact ⟨0, Nat.zero_le _, rfl, rfl, HB.out, HJ.out⟩
      case round =>
        obtain ⟨m, hm, rfl, hany, hB2, hj2⟩ := hrel
        have HB2 := Lib.hid hB2
        have HJ2 := Lib.hid hj2
        have hc := blk_cells hj2
        have hjl := blk_lt hj2
        by_cases hlm : m < lines.length
        · obtain ⟨ad, rfl, _, hadl, hc0, hc1, hc2, hw1, hw2, hw3⟩ := ln_at (HS.out.keep fun k hk _ => hB2.block k hk) m hlm
          clear hB2 hj2 hw1 hw2 hw3
          cases hv : rowBad en lines[m]
          · obtain ⟨r1, r2, r3, r4, r5, r6⟩ := row_ok hv
            have hnext := (any_take_succ (rowBad en) lines m hlm).trans (by rw [hany.out, hv]; try rfl)
            have HN := Lib.hid hnext
            clear hnext hv
            clear hc
            have hcj := blk_cells (blk_alloc HJ2.out (.cells #[.int .i64 lines[m].acc, .int .i64 lines[m].amt, .int .i64 lines[m].par] 74))
            have hcl := blk_cells (blk_new wr (.cells #[.int .i64 lines[m].acc, .int .i64 lines[m].amt, .int .i64 lines[m].par] 74))
            have hc := blk_cells HJ2.out
            go_wp2_with fail
            go_roundw
            case rel => exact ⟨m + 1, by omega, by go_num, HN.out, HB2.out.alloc HB2.out.size _, blk_alloc HJ2.out _⟩
            case measure => simp [Go.RowKit.intOf]; omega
          · have hres : res = 1 := HC.out.symm.trans (chk_row HF.out HRO.out (any_at (rowBad en) lines m hlm hv))
            have HR := Lib.hid hres
            clear hres hc
            have hcj := blk_cells (blk_alloc HJ2.out (.cells #[.int .i64 lines[m].acc, .int .i64 lines[m].amt, .int .i64 lines[m].par] 74))
            have hcl := blk_cells (blk_new wr (.cells #[.int .i64 lines[m].acc, .int .i64 lines[m].amt, .int .i64 lines[m].par] 74))
            have hc := blk_cells HJ2.out
            have hrc := row_cases hv
            clear hv
            rcases hrc with h | ⟨h1, h | ⟨h2, h | ⟨h3, h | ⟨h4, h | ⟨h5, h⟩⟩⟩⟩⟩
            all_goals
              go_wp2_with fail
              go_ret
              rw [HR.out]
              exact ⟨rfl, HB2.out.alloc HB2.out.size _⟩
        · have hra : lines.any (rowBad en) = false := by
            have := hany.out
            rwa [take_all hm hlm] at this
          have HRA := Lib.hid hra
          clear hra hany hB2 hj2
          go_wp2_with fail
          go_loopw [6, 7] (fun vs vi wr3 => ∃ n : Nat, n ≤ lines.length ∧ vi = .int .i64 n ∧ vs = .int .i64 (sumA (lines.take n)) ∧ Hid ((lines.take n).any (fun l => !fitsB l.amt) = false) ∧ wr3 = wr) (fun _ vi _ => lines.length - (Go.RowKit.intOf vi).toNat)
          case atStart => exact ⟨0, Nat.zero_le _, rfl, rfl, rfl, rfl⟩
          case round =>
            obtain ⟨k, hk, rfl, rfl, hfit, rfl⟩ := hrel
            by_cases hlk : k < lines.length
            · obtain ⟨ad, rfl, _, hadl, hc0, hc1, hc2, hw1, hw2, hw3⟩ := ln_at (HS.out.keep fun k hk _ => HB2.out.block k hk) k hlk
              have hsb := sum_take_bound k (by omega) hfit.out
              have hsum := sumA_take_succ lines k hlk
              clear hw1 hw2 hw3
              cases hv : fitsB lines[k].amt
              · have hres : res = 2 := HC.out.symm.trans (chk_fits HF.out HRO.out HRA.out (any_at _ lines k hlk (by simp [hv])))
                have HR := Lib.hid hres
                clear hres hsum
                go_wp2_with fail
                refine (rfits_any _ _).mono ?_
                rintro e w' ⟨rfl, rfl⟩
                rw [hv]
                go_wp2_with fail
                go_ret
                rw [HR.out]
                exact ⟨rfl, HB2.out⟩
              · have hnext := (any_take_succ (fun l : Ln => !fitsB l.amt) lines k hlk).trans (by rw [hfit.out, hv]; try rfl)
                have HN := Lib.hid hnext
                have hbd : -1000000000000000 ≤ lines[k].amt ∧ lines[k].amt ≤ 1000000000000000 := by simpa [fitsB] using hv
                have HSUM := Lib.hid hsum
                clear hnext hsum
                go_wp2_with fail
                refine (rfits_any _ _).mono ?_
                rintro e w' ⟨rfl, rfl⟩
                rw [hv]
                go_wp2_with fail
                go_roundw
                case rel => exact ⟨k + 1, by omega, by go_num, by rw [HSUM.out], HN.out, by first | rfl | trivial⟩
                case measure => simp [Go.RowKit.intOf]; omega
            · have hfa : lines.any (fun l => !fitsB l.amt) = false := by
                have := hfit.out
                rwa [take_all hk hlk] at this
              have hch := HC.out.symm.trans (chk_sum HF.out HRO.out HRA.out hfa)
              simp only at hch
              rw [take_all hk hlk]
              clear hfa hfit
              by_cases hz : sumA lines = 0
              · have hres : res = 0 := by rw [hch, hz]; rfl
                have HR := Lib.hid hres
                clear hres hch
                rw [hz]
                go_wp2_with fail
                go_ret
                rw [HR.out]
                exact ⟨rfl, HB2.out⟩
              · have hres : res = 3 := by rw [hch, if_pos (by simpa using hz)]
                have hz' : (sumA lines != 0) = true := by simpa using hz
                have HR := Lib.hid hres
                clear hres hch
                go_wp2_with fail
                go_ret
                rw [HR.out]
                exact ⟨rfl, HB2.out⟩

theorem rcheck_any (j : Jn) (a : Option Addr) (cap : Nat) (w : World) {F : Nat → Prop} (hs : Sl tLn w F a j.lines) :
    Calls Tryz.prog 127 #[jnv j a cap] w fun e w' => e = .returned (.int .i64 (chk j)) ∧ Below w.heap.size w w' := by
  cases hf : frontBad j
  · exact rcheck_rest j a cap w hf hs
  · have : chk j = 1 := by simp [chk, hf]
    rw [this]
    exact rcheck_front j a cap w hf
end Go.Proofs.YtgggpaacagbmcaaGreat
