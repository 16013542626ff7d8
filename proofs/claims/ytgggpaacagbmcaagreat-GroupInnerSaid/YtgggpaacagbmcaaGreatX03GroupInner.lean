/- Contracts of the package entry: entity, named, row, front; money.Fits. -/
import Derived.Test.YtgggpaacagbmcaaGreatX02GroupInner
set_option linter.unusedVariables false
set_option linter.unusedSimpArgs false
namespace Go.Proofs.YtgggpaacagbmcaaGreat
open Go.RowKit Go.Maps

set_option maxHeartbeats 1000000 in
theorem mfits_any (a : Option Addr) (cap : Nat) (l : List Int) (w : World) {F : Nat → Prop} (hl : l.length ≤ 140737488351232) (hs : Sl tInt w F a l) :
    Calls Tryz.prog 83 #[.slice a l.length cap] w fun e w' => e = .returned (.bool (l.all fitsB)) ∧ w' = w := by
  have HL := Lib.hid hs
  clear hs
  go_enter Tryz.func83, Tryz.ntmps83
  go_wp2_with fail
  go_loopw [7] (fun vi wr => ∃ n : Nat, n ≤ l.length ∧ vi = .int .i64 n ∧ Hid ((l.take n).all fitsB = true) ∧ wr = w) (fun vi _ => l.length - (Go.RowKit.intOf vi).toNat)
  case atStart => exact ⟨0, Nat.zero_le _, rfl, rfl, rfl⟩
  case round =>
    obtain ⟨n, hn, rfl, hall, rfl⟩ := hrel
    by_cases hlt : n < l.length
    · obtain ⟨ad, rfl, hadl, hc0⟩ := int_at HL.out n hlt
      cases hv : fitsB l[n]
      · have hres : l.all fitsB = false := by
          rw [List.all_eq_false]
          exact ⟨l[n], List.getElem_mem hlt, by simp [hv]⟩
        have HR := Lib.hid hres
        clear hres
        have hbd : l[n] < -1000000000000000 ∨ -1000000000000000 ≤ l[n] ∧ 1000000000000000 < l[n] := by
          simp [fitsB] at hv
          omega
        clear hv
        rcases hbd with h | ⟨h1, h⟩
        all_goals
          go_wp2_with fail
          go_ret
          rw [HR.out]
          exact ⟨rfl, rfl⟩
      · have hnext := (all_take_succ fitsB l n hlt).trans (by rw [hall.out, hv]; try rfl)
        have HN := Lib.hid hnext
        have hbd : -1000000000000000 ≤ l[n] ∧ l[n] ≤ 1000000000000000 := by simpa [fitsB] using hv
        obtain ⟨hb1, hb2⟩ := hbd
        clear hnext hv
        go_wp2_with fail
        go_roundw
        case rel => exact ⟨n + 1, by omega, by go_num, HN.out, by first | rfl | trivial⟩
        case measure => simp [Go.RowKit.intOf]; omega
    · have hres : l.all fitsB = true := by
        have := hall.out
        rwa [List.take_of_length_le (by omega)] at this
      have HR := Lib.hid hres
      clear hres
      go_wp2_with fail
      go_ret
      rw [HR.out]
      exact ⟨rfl, rfl⟩

theorem mfits1 (m : Int) (b : Nat) (w : World) (hm : w.heap[b]? = some (.cells #[.int .i64 m] 3 (0, 0))) (hw : (Lit.int .i64 m).wf = true) :
    Calls Tryz.prog 83 #[.slice (some ⟨b, 0, none⟩) 1 1] w fun e w' => e = .returned (.bool (fitsB m)) ∧ w' = w := by
  have h := mfits_any (some ⟨b, 0, none⟩) 1 [m] w (by simp only [List.length_cons, List.length_nil]; omega) (sl_one m b w hm hw)
  have e1 : [m].all fitsB = fitsB m := by simp
  rw [e1] at h
  exact h

def entB (n : Int) : Bool := decide (1 ≤ n) && decide (n ≤ 9)
theorem entity_any (n : Int) (w : World) : Calls Tryz.prog 192 #[.int .i64 n] w fun e w' => e = .returned (.bool (entB n)) ∧ w' = w := by
  go_enter Tryz.func192, Tryz.ntmps192
  go_wp2
  all_goals
    go_ret
    refine ⟨?_, rfl⟩
    (first | (simp [entB, *]; done) | (simp [entB] at *; grind) | (simp_all [entB]; done))

def namedB (r : ByteArray) : Bool := refOk r && decide ((r.size : Int) ≤ 8)
theorem byte_cases {x : Nat} {b : Bool} (h : refB (x : Int) = b) : (b = false ∧ ((x : Int) < 48 ∧ (x : Int) < 65 ∨ 57 < (x : Int) ∧ 48 ≤ (x : Int) ∧ (x : Int) < 65 ∨ 65 ≤ (x : Int) ∧ 90 < (x : Int) ∧ 48 ≤ (x : Int) ∧ 57 < (x : Int))) ∨
    (b = true ∧ (48 ≤ (x : Int) ∧ (x : Int) ≤ 57 ∧ (x : Int) < 65 ∨ 65 ≤ (x : Int) ∧ (x : Int) ≤ 90)) := by
  subst h
  cases h : refB (x : Int)
  · simp [refB] at h
    simp
    omega
  · simp [refB] at h
    simp
    omega

set_option maxHeartbeats 2000000 in
theorem named_any (r : ByteArray) (hsz : r.size ≤ 140737488351232) (w : World) : Calls Tryz.prog 193 #[.string r] w fun e w' => e = .returned (.bool (namedB r)) ∧ w' = w := by
  generalize hres : namedB r = res
  have HC := Lib.hid hres
  clear hres
  go_enter Tryz.func193, Tryz.ntmps193
  go_wp2_with fail
  go_loopw [7] (fun vi wr => ∃ n : Nat, n ≤ r.size ∧ vi = .int .i64 n ∧ Hid ((r.data.toList.take n).all (fun c => refB (c.toNat : Int)) = true) ∧ wr = w) (fun vi _ => r.size - (Go.RowKit.intOf vi).toNat)
  case atStart => exact ⟨0, Nat.zero_le _, rfl, rfl, rfl⟩
  case round =>
    obtain ⟨n, hn, rfl, hall, rfl⟩ := hrel
    by_cases hlt : n < r.size
    · have hlt' : n < r.data.toList.length := by rw [Array.length_toList]; exact hlt
      have HLT := Lib.hid (show n + 1 ≤ r.size ∧ True from ⟨hlt, trivial⟩)
      have hget : r.data.toList[n] = r[n] := by rw [Array.getElem_toList]; rfl
      cases hv : refB ((r[n]).toNat : Int)
      · have hr : res = false := by
          rw [← HC.out]
          simp [namedB, refOk_at n hlt' (by rw [hget]; exact hv)]
        have HR := Lib.hid hr
        have hb := byte_cases hv
        simp only [true_and, Bool.false_eq_true, false_and, or_false] at hb
        clear hr hget hv
        rcases hb with ⟨h1, h2⟩ | ⟨h1, h2, h3⟩ | ⟨h1, h2, h3, h4⟩
        all_goals
          go_wp2_with fail
          go_ret
          rw [HR.out]
          exact ⟨rfl, rfl⟩
      · have hnext := (all_take_succ (fun c : UInt8 => refB (c.toNat : Int)) _ n hlt').trans (by rw [hall.out, hget, hv]; try rfl)
        have HN := Lib.hid hnext
        have hb := byte_cases hv
        simp only [true_and, Bool.true_eq_false, false_and, false_or] at hb
        clear hnext hget hv
        rcases hb with ⟨h1, h2, h3⟩ | ⟨h1, h2⟩
        all_goals
          go_wp2_with fail
          go_roundw
          case rel => exact ⟨n + 1, HLT.out.1, by go_num, HN.out, by first | rfl | trivial⟩
          case measure => have := HLT.out.1; simp [Go.RowKit.intOf]; omega
    · have hro : refOk r = true := by
        have := hall.out
        rwa [List.take_of_length_le (by rw [Array.length_toList]; exact Nat.le_of_not_lt hlt)] at this
      have hr : res = decide ((r.size : Int) ≤ 8) := by
        rw [← HC.out]
        simp only [namedB, hro, Bool.true_and]
      have HR := Lib.hid hr
      clear hr hro
      go_wp2_with fail
      go_ret
      rw [HR.out]
      exact ⟨rfl, rfl⟩
end Go.Proofs.YtgggpaacagbmcaaGreat


/- Contracts of the package entry: row, front, Check. -/
set_option linter.unusedVariables false
set_option linter.unusedSimpArgs false
namespace Go.Proofs.YtgggpaacagbmcaaGreat
open Go.RowKit Go.Maps

abbrev lnv (l : Ln) : Value := .agg #[.int .i64 l.acc, .int .i64 l.amt, .int .i64 l.par]
theorem entity_is (n : Int) {b : Bool} (h : entB n = b) (w : World) : Calls Tryz.prog 192 #[.int .i64 n] w fun e w' => e = .returned (.bool b) ∧ w' = w := by
  have := entity_any n w
  rwa [h] at this

theorem row_bad {en : Int} {l : Ln} (he : 1 ≤ en) (h : rowBad en l = true) : l.acc < 1 ∨ 1 ≤ l.acc ∧ (9999 < l.acc ∨ l.acc ≤ 9999 ∧ ((l.amt == 0) = true ∧ (l.amt != 0) = false ∨ (l.amt != 0) = true ∧ ((l.par == 0) = false ∧ entB l.par = false ∨ (l.par == 0) = false ∧ entB l.par = true ∧ (l.par != en) = false))) := by
  rcases row_cases h with h | ⟨h1, h | ⟨h2, h | ⟨h3, h | ⟨h4, h | ⟨h5, h⟩⟩⟩⟩⟩
  · exact .inl h
  · exact .inr ⟨h1, .inl h⟩
  · exact .inr ⟨h1, .inr ⟨h2, .inl ⟨h, by simpa using h⟩⟩⟩
  all_goals
    have h3' : (l.amt != 0) = true := by simpa using h3
    refine .inr ⟨h1, .inr ⟨h2, .inr ⟨h3', ?_⟩⟩⟩
  · exact .inl ⟨by simp; omega, by simp [entB]; omega⟩
  · exact .inl ⟨by simp; omega, by simp [entB]; omega⟩
  · have h' : l.par = en := by simpa using h
    by_cases h9 : 9 < l.par
    · omega
    · exact .inr ⟨by simp; omega, by simp [entB]; omega, by simp [h']⟩
theorem row_good {en : Int} {l : Ln} (h : rowBad en l = false) : 1 ≤ l.acc ∧ l.acc ≤ 9999 ∧ (l.amt != 0) = true ∧ ((l.par == 0) = true ∨ (l.par == 0) = false ∧ entB l.par = true ∧ (l.par != en) = true) := by
  obtain ⟨h1, h2, h3, h4, h5, h6⟩ := row_ok h
  refine ⟨h1, h2, by simpa using h3, ?_⟩
  by_cases h0 : l.par = 0
  · exact .inl (by simp [h0])
  · exact .inr ⟨by simpa using h0, by simp [entB]; omega, by simpa using h6⟩

set_option maxHeartbeats 2000000 in
theorem erow_any (l : Ln) (en : Int) (he : 1 ≤ en) (w : World) : Calls Tryz.prog 177 #[lnv l, .int .i64 en] w fun e w' => e = .returned (.bool (!rowBad en l)) ∧ Below w.heap.size w w' := by
  cases hv : rowBad en l
  · obtain ⟨h1, h2, h3, h4⟩ := row_good hv
    clear hv
    obtain ⟨acc, amt, par⟩ := l
    simp only at h1 h2 h3 h4
    rcases h4 with h4 | ⟨h4, h5, h6⟩
    · go_enter Tryz.func177, Tryz.ntmps177
      go_wp2_with fail
      go_ret
      exact ⟨rfl, (Below.refl _ _).alloc (Nat.le_refl _) _⟩
    · have H5 := Lib.hid h5
      clear h5
      go_enter Tryz.func177, Tryz.ntmps177
      go_wp2_with fail
      refine (entity_is _ H5.out _).mono ?_
      rintro e w' ⟨rfl, rfl⟩
      go_wp2_with fail
      go_ret
      exact ⟨rfl, (Below.refl _ _).alloc (Nat.le_refl _) _⟩
  · have hb := row_bad he hv
    clear hv
    obtain ⟨acc, amt, par⟩ := l
    simp only at hb
    rcases hb with h | ⟨h1, h | ⟨h2, ⟨h, h0⟩ | ⟨h3, h | h⟩⟩⟩
    iterate 3
      go_enter Tryz.func177, Tryz.ntmps177
      go_wp2_with fail
      go_ret
      exact ⟨rfl, (Below.refl _ _).alloc (Nat.le_refl _) _⟩
    · obtain ⟨h4, h5⟩ := h
      have H5 := Lib.hid h5
      clear h5
      go_enter Tryz.func177, Tryz.ntmps177
      go_wp2_with fail
      refine (entity_is _ H5.out _).mono ?_
      rintro e w' ⟨rfl, rfl⟩
      go_wp2_with fail
      go_ret
      exact ⟨rfl, (Below.refl _ _).alloc (Nat.le_refl _) _⟩
    · obtain ⟨h4, h5, h6⟩ := h
      have H5 := Lib.hid h5
      clear h5
      go_enter Tryz.func177, Tryz.ntmps177
      go_wp2_with fail
      refine (entity_is _ H5.out _).mono ?_
      rintro e w' ⟨rfl, rfl⟩
      go_wp2_with fail
      go_ret
      exact ⟨rfl, (Below.refl _ _).alloc (Nat.le_refl _) _⟩
end Go.Proofs.YtgggpaacagbmcaaGreat


/- Contracts of the package entry: front, Check. -/
set_option linter.unusedVariables false
set_option linter.unusedSimpArgs false
namespace Go.Proofs.YtgggpaacagbmcaaGreat
open Go.RowKit Go.Maps

def frontE (j : Jn) : Bool := !frontBad j && refOk j.ref
theorem frontE_bad {j : Jn} (h : frontE j = false) : j.id < 1 ∨ 1 ≤ j.id ∧ (999999 < j.id ∨ j.id ≤ 999999 ∧ (entB j.en = false ∨ entB j.en = true ∧ (monthOk j.pe = false ∨ monthOk j.pe = true ∧ (namedB j.ref = false ∨ namedB j.ref = true ∧ ((j.lines.length : Int) < 2 ∨ 2 ≤ (j.lines.length : Int) ∧ 8 < (j.lines.length : Int)))))) := by
  have h' : frontBad j = true ∨ refOk j.ref = false := by
    simp only [frontE, Bool.and_eq_false_iff, Bool.not_eq_false'] at h
    exact h
  by_cases a1 : j.id < 1
  · exact .inl a1
  refine .inr ⟨by omega, ?_⟩
  by_cases a2 : 999999 < j.id
  · exact .inl a2
  refine .inr ⟨by omega, ?_⟩
  cases a3 : entB j.en
  · exact .inl rfl
  refine .inr ⟨rfl, ?_⟩
  cases a4 : monthOk j.pe
  · exact .inl rfl
  refine .inr ⟨rfl, ?_⟩
  cases a5 : namedB j.ref
  · exact .inl rfl
  refine .inr ⟨rfl, ?_⟩
  by_cases a6 : (j.lines.length : Int) < 2
  · exact .inl a6
  refine .inr ⟨by omega, ?_⟩
  have a5' : refOk j.ref = true ∧ (j.ref.size : Int) ≤ 8 := by simpa [namedB] using a5
  have a3' : 1 ≤ j.en ∧ j.en ≤ 9 := by simpa [entB] using a3
  rcases h' with h' | h'
  · have hf := front_cases h'
    rw [a4] at hf
    simp only [Bool.true_eq_false, false_or, true_and] at hf
    omega
  · rw [a5'.1] at h'; cases h'
theorem frontE_ok {j : Jn} (h : frontE j = true) : 1 ≤ j.id ∧ j.id ≤ 999999 ∧ entB j.en = true ∧ monthOk j.pe = true ∧ namedB j.ref = true ∧ 2 ≤ (j.lines.length : Int) ∧ (j.lines.length : Int) ≤ 8 := by
  simp only [frontE, Bool.and_eq_true, Bool.not_eq_true'] at h
  obtain ⟨h1, h2, h3, h4, h5, h6, h7, h8⟩ := front_ok h.1
  exact ⟨h1, h2, by simp [entB, h3, h4], h5, by simp [namedB, h.2]; omega, h7, h8⟩
theorem named_is (r : ByteArray) (hsz : r.size ≤ 140737488351232) {b : Bool} (h : namedB r = b) (w : World) : Calls Tryz.prog 193 #[.string r] w fun e w' => e = .returned (.bool b) ∧ w' = w := by
  have := named_any r hsz w
  rwa [h] at this
theorem term_valid_is (m : Int) (b : Nat) (w : World) (hm : w.heap[b]? = some (.cells #[.int .i64 m] 3 (0, 0))) (hw : (Lit.int .i64 m).wf = true) {x : Bool} (h : monthOk m = x) :
    Calls Tryz.prog 28 #[.slice (some ⟨b, 0, none⟩) 1 1] w fun e w' => e = .returned (.bool x) ∧ Below w.heap.size w w' := by
  have := term_valid1 m b w hm hw
  rwa [h] at this

set_option maxHeartbeats 4000000 in
theorem efront_any (j : Jn) (a : Option Addr) (cap : Nat) (w : World) (hsz : j.ref.size ≤ 140737488351232) (hpe : I64 j.pe) :
    Calls Tryz.prog 176 #[jnv j a cap] w fun e w' => e = .returned (.bool (frontE j)) ∧ Below w.heap.size w w' := by
  cases hv : frontE j
  · have hb := frontE_bad hv
    clear hv
    obtain ⟨id, en, pe, ref, lines, void⟩ := j
    simp only at hb hsz hpe
    have HPE := Lib.hid hpe
    clear hpe
    rcases hb with h | ⟨h1, h | ⟨h2, h | ⟨h3, h⟩⟩⟩
    iterate 2
      go_enter Tryz.func176, Tryz.ntmps176
      go_wp2_with fail
      go_ret
      exact ⟨rfl, (Below.refl _ _).alloc (Nat.le_refl _) _⟩
    · have H := Lib.hid h
      clear h
      go_enter Tryz.func176, Tryz.ntmps176
      go_wp2_with fail
      refine (entity_is _ H.out _).mono ?_
      rintro e w' ⟨rfl, rfl⟩
      go_wp2_with fail
      go_ret
      exact ⟨rfl, (Below.refl _ _).alloc (Nat.le_refl _) _⟩
    · have H3 := Lib.hid h3
      clear h3
      rcases h with h | ⟨h4, h⟩
      · have H := Lib.hid h
        clear h
        go_enter Tryz.func176, Tryz.ntmps176
        go_wp2_with fail
        refine (entity_is _ H3.out _).mono ?_
        rintro e w' ⟨rfl, rfl⟩
        go_wp2_with fail
        refine (term_valid_is pe _ _ (by have := blk_new (w.alloc (.cells #[.int .i64 id, .int .i64 en, .int .i64 pe, .string ref, .slice a lines.length cap, .bool void] 81)) (.cells #[.int .i64 pe] 3); simpa using this) HPE.out H.out).mono ?_
        rintro e w1 ⟨rfl, hb⟩
        have hc := blk_cells (blk_below (blk_alloc (blk_new w (.cells #[.int .i64 id, .int .i64 en, .int .i64 pe, .string ref, .slice a lines.length cap, .bool void] 81)) (.cells #[.int .i64 pe] 3)) hb)
        have HB := Lib.hid (belows_then (((Below.refl w.heap.size w).alloc (Nat.le_refl _) (.cells #[.int .i64 id, .int .i64 en, .int .i64 pe, .string ref, .slice a lines.length cap, .bool void] 81)).alloc (by simp) (.cells #[.int .i64 pe] 3)) (by simp; omega) hb)
        clear hb
        go_wp2_with fail
        go_ret
        exact ⟨rfl, HB.out⟩
      · have H4 := Lib.hid h4
        clear h4
        rcases h with h | ⟨h5, h⟩
        · have H := Lib.hid h
          clear h
          go_enter Tryz.func176, Tryz.ntmps176
          go_wp2_with fail
          refine (entity_is _ H3.out _).mono ?_
          rintro e w' ⟨rfl, rfl⟩
          go_wp2_with fail
          refine (term_valid_is pe _ _ (by have := blk_new (w.alloc (.cells #[.int .i64 id, .int .i64 en, .int .i64 pe, .string ref, .slice a lines.length cap, .bool void] 81)) (.cells #[.int .i64 pe] 3); simpa using this) HPE.out H4.out).mono ?_
          rintro e w1 ⟨rfl, hb⟩
          have hc := blk_cells (blk_below (blk_alloc (blk_new w (.cells #[.int .i64 id, .int .i64 en, .int .i64 pe, .string ref, .slice a lines.length cap, .bool void] 81)) (.cells #[.int .i64 pe] 3)) hb)
          have HB := Lib.hid (belows_then (((Below.refl w.heap.size w).alloc (Nat.le_refl _) (.cells #[.int .i64 id, .int .i64 en, .int .i64 pe, .string ref, .slice a lines.length cap, .bool void] 81)).alloc (by simp) (.cells #[.int .i64 pe] 3)) (by simp; omega) hb)
          clear hb
          go_wp2_with fail
          refine (named_is _ hsz H.out _).mono ?_
          rintro e w' ⟨rfl, rfl⟩
          go_wp2_with fail
          go_ret
          exact ⟨rfl, HB.out⟩
        · have H5 := Lib.hid h5
          clear h5
          rcases h with h | ⟨h6, h⟩
          all_goals
            go_enter Tryz.func176, Tryz.ntmps176
            go_wp2_with fail
            refine (entity_is _ H3.out _).mono ?_
            rintro e w' ⟨rfl, rfl⟩
            go_wp2_with fail
            refine (term_valid_is pe _ _ (by have := blk_new (w.alloc (.cells #[.int .i64 id, .int .i64 en, .int .i64 pe, .string ref, .slice a lines.length cap, .bool void] 81)) (.cells #[.int .i64 pe] 3); simpa using this) HPE.out H4.out).mono ?_
            rintro e w1 ⟨rfl, hb⟩
            have hc := blk_cells (blk_below (blk_alloc (blk_new w (.cells #[.int .i64 id, .int .i64 en, .int .i64 pe, .string ref, .slice a lines.length cap, .bool void] 81)) (.cells #[.int .i64 pe] 3)) hb)
            have HB := Lib.hid (belows_then (((Below.refl w.heap.size w).alloc (Nat.le_refl _) (.cells #[.int .i64 id, .int .i64 en, .int .i64 pe, .string ref, .slice a lines.length cap, .bool void] 81)).alloc (by simp) (.cells #[.int .i64 pe] 3)) (by simp; omega) hb)
            clear hb
            go_wp2_with fail
            refine (named_is _ hsz H5.out _).mono ?_
            rintro e w' ⟨rfl, rfl⟩
            go_wp2_with fail
            go_ret
            refine ⟨?_, HB.out⟩
            first
            | rfl
            | (simp; omega)
  · obtain ⟨h1, h2, h3, h4, h5, h6, h7⟩ := frontE_ok hv
    clear hv
    obtain ⟨id, en, pe, ref, lines, void⟩ := j
    simp only at h1 h2 h3 h4 h5 h6 h7 hsz hpe
    have HPE := Lib.hid hpe
    have H3 := Lib.hid h3
    have H4 := Lib.hid h4
    have H5 := Lib.hid h5
    clear hpe h3 h4 h5
    go_enter Tryz.func176, Tryz.ntmps176
    go_wp2_with fail
    refine (entity_is _ H3.out _).mono ?_
    rintro e w' ⟨rfl, rfl⟩
    go_wp2_with fail
    refine (term_valid_is pe _ _ (by have := blk_new (w.alloc (.cells #[.int .i64 id, .int .i64 en, .int .i64 pe, .string ref, .slice a lines.length cap, .bool void] 81)) (.cells #[.int .i64 pe] 3); simpa using this) HPE.out H4.out).mono ?_
    rintro e w1 ⟨rfl, hb⟩
    have hc := blk_cells (blk_below (blk_alloc (blk_new w (.cells #[.int .i64 id, .int .i64 en, .int .i64 pe, .string ref, .slice a lines.length cap, .bool void] 81)) (.cells #[.int .i64 pe] 3)) hb)
    have HB := Lib.hid (belows_then (((Below.refl w.heap.size w).alloc (Nat.le_refl _) (.cells #[.int .i64 id, .int .i64 en, .int .i64 pe, .string ref, .slice a lines.length cap, .bool void] 81)).alloc (by simp) (.cells #[.int .i64 pe] 3)) (by simp; omega) hb)
    clear hb
    go_wp2_with fail
    refine (named_is _ hsz H5.out _).mono ?_
    rintro e w' ⟨rfl, rfl⟩
    go_wp2_with fail
    go_ret
    refine ⟨?_, HB.out⟩
    first
    | rfl
    | (simp; omega)
end Go.Proofs.YtgggpaacagbmcaaGreat


/- Contract of entry.Check. -/
set_option linter.unusedVariables false
set_option linter.unusedSimpArgs false
namespace Go.Proofs.YtgggpaacagbmcaaGreat
open Go.RowKit Go.Maps

theorem efront_is (j : Jn) (a : Option Addr) (cap : Nat) (w : World) (hsz : j.ref.size ≤ 140737488351232) (hpe : I64 j.pe) {b : Bool} (h : frontE j = b) :
    Calls Tryz.prog 176 #[jnv j a cap] w fun e w' => e = .returned (.bool b) ∧ Below w.heap.size w w' := by
  have := efront_any j a cap w hsz hpe
  rwa [h] at this
theorem erow_is (l : Ln) (en : Int) (he : 1 ≤ en) (w : World) {b : Bool} (h : (!rowBad en l) = b) : Calls Tryz.prog 177 #[lnv l, .int .i64 en] w fun e w' => e = .returned (.bool b) ∧ Below w.heap.size w w' := by
  have := erow_any l en he w
  rwa [h] at this
theorem mfits_is (m : Int) (b : Nat) (w : World) (hm : w.heap[b]? = some (.cells #[.int .i64 m] 3 (0, 0))) (hw : (Lit.int .i64 m).wf = true) {x : Bool} (h : fitsB m = x) :
    Calls Tryz.prog 83 #[.slice (some ⟨b, 0, none⟩) 1 1] w fun e w' => e = .returned (.bool x) ∧ w' = w := by
  have := mfits1 m b w hm hw
  rwa [h] at this
theorem chk_front {j : Jn} (h : frontE j = false) : chk j = 1 := by
  simp only [frontE, Bool.and_eq_false_iff, Bool.not_eq_false'] at h
  rcases h with h | h
  · simp [chk, h]
  · simp [chk, h]

set_option maxHeartbeats 4000000 in
set_option maxRecDepth 100000 in
theorem echeck_any (j : Jn) (a : Option Addr) (cap : Nat) (w : World) {F : Nat → Prop} (hsz : j.ref.size ≤ 140737488351232) (hpe : I64 j.pe) (hs : Sl tLn w F a j.lines) :
    Calls Tryz.prog 155 #[jnv j a cap] w fun e w' => e = .returned (.int .i64 (chk j)) ∧ Below w.heap.size w w' := by
  have HS := Lib.hid hs
  have HPE := Lib.hid hpe
  have HSZ := Lib.hid hsz
  clear hs hpe hsz
  obtain ⟨id, en, pe, ref, lines, void⟩ := j
  simp only at HS HPE HSZ
  generalize hck : chk ⟨id, en, pe, ref, lines, void⟩ = res
  have HC := Lib.hid hck
  clear hck
  cases hv : frontE ⟨id, en, pe, ref, lines, void⟩
  · have hres : res = 1 := HC.out.symm.trans (chk_front hv)
    have HR := Lib.hid hres
    have HV := Lib.hid hv
    clear hv hres
    go_enter Tryz.func155, Tryz.ntmps155
    go_wp2_with fail
    refine (efront_is ⟨id, en, pe, ref, lines, void⟩ a cap _ HSZ.out HPE.out HV.out).mono ?_
    rintro e w1 ⟨rfl, hb⟩
    have HB := Lib.hid (belows_then ((Below.refl w.heap.size w).alloc (Nat.le_refl _) (.cells #[.int .i64 id, .int .i64 en, .int .i64 pe, .string ref, .slice a lines.length cap, .bool void] 81)) (by simp) hb)
    clear hb
    go_wp2_with fail
    go_ret
    rw [HR.out]
    exact ⟨rfl, HB.out⟩
  · obtain ⟨q1, q2, q3, q4, q5, q6, q7⟩ := frontE_ok hv
    simp only at q1 q2 q3 q4 q5 q6 q7
    have hen : 1 ≤ en ∧ en ≤ 9 := by simpa [entB] using q3
    obtain ⟨hen1, hen2⟩ := hen
    have hfr : frontBad ⟨id, en, pe, ref, lines, void⟩ = false ∧ refOk ref = true := by simpa [frontE] using hv
    have HF := Lib.hid hfr.1
    have HRO := Lib.hid hfr.2
    have HV := Lib.hid hv
    clear hv q3 q4 q5 hfr
    go_enter Tryz.func155, Tryz.ntmps155
    go_wp2_with fail
    refine (efront_is ⟨id, en, pe, ref, lines, void⟩ a cap _ HSZ.out HPE.out HV.out).mono ?_
    rintro e w1 ⟨rfl, hb⟩
    have hj := blk_below (blk_new w (.cells #[.int .i64 id, .int .i64 en, .int .i64 pe, .string ref, .slice a lines.length cap, .bool void] 81)) hb
    have HB := Lib.hid (belows_then ((Below.refl w.heap.size w).alloc (Nat.le_refl _) (.cells #[.int .i64 id, .int .i64 en, .int .i64 pe, .string ref, .slice a lines.length cap, .bool void] 81)) (by simp) hb)
    have HJ := Lib.hid hj
    have hc := blk_cells hj
    clear hb hj
    go_wp2_with fail
    clear hc
    go_loopw [14] (fun vi wr2 => ∃ n : Nat, n ≤ lines.length ∧ vi = .int .i64 n ∧ Hid ((lines.take n).any (rowBad en) = false) ∧ Below w.heap.size w wr2 ∧ wr2.heap[w.heap.size]? = some (.cells #[.int .i64 id, .int .i64 en, .int .i64 pe, .string ref, .slice a lines.length cap, .bool void] 81 (0, 0))) (fun vi _ => lines.length - (Go.RowKit.intOf vi).toNat)
    case atStart => exact ⟨0, Nat.zero_le _, rfl, rfl, HB.out, HJ.out⟩
    case round =>
      obtain ⟨m, hm, rfl, hany, hB2, hj2⟩ := hrel
      have HB2 := Lib.hid hB2
      have HJ2 := Lib.hid hj2
      by_cases hlm : m < lines.length
      · obtain ⟨ad, rfl, _, hadl, hc0, hc1, hc2, hw1, hw2, hw3⟩ := ln_at (HS.out.keep fun k hk _ => hB2.block k hk) m hlm
        clear hB2 hj2 hw1 hw2 hw3
        have hcj := blk_cells (blk_alloc HJ2.out (.cells #[.int .i64 lines[m].acc, .int .i64 lines[m].amt, .int .i64 lines[m].par] 74))
        have hcl := blk_cells (blk_new wr (.cells #[.int .i64 lines[m].acc, .int .i64 lines[m].amt, .int .i64 lines[m].par] 74))
        have hjl := blk_lt HJ2.out
        go_wp2_with fail
        cases hv : rowBad en lines[m]
        · refine (erow_is lines[m] en hen1 _ (b := true) (by rw [hv]; rfl)).mono ?_
          rintro e w3 ⟨rfl, hb⟩
          have HB3 := Lib.hid (belows_then (HB2.out.alloc HB2.out.size (.cells #[.int .i64 lines[m].acc, .int .i64 lines[m].amt, .int .i64 lines[m].par] 74)) (Nat.le_trans HB2.out.size (by simp)) hb)
          have HJ3 := Lib.hid (blk_below (blk_alloc HJ2.out (.cells #[.int .i64 lines[m].acc, .int .i64 lines[m].amt, .int .i64 lines[m].par] 74)) hb)
          have hnext := (any_take_succ (rowBad en) lines m hlm).trans (by rw [hany.out, hv]; try rfl)
          have HN := Lib.hid hnext
          clear hnext hv hcj hcl hc0 hc1 hc2 hb
          go_wp2_with fail
          go_roundw
          case rel => exact ⟨m + 1, by omega, by go_num, HN.out, HB3.out, HJ3.out⟩
          case measure => simp [Go.RowKit.intOf]; omega
        · refine (erow_is lines[m] en hen1 _ (b := false) (by rw [hv]; rfl)).mono ?_
          rintro e w3 ⟨rfl, hb⟩
          have HB3 := Lib.hid (belows_then (HB2.out.alloc HB2.out.size (.cells #[.int .i64 lines[m].acc, .int .i64 lines[m].amt, .int .i64 lines[m].par] 74)) (Nat.le_trans HB2.out.size (by simp)) hb)
          have hres : res = 1 := HC.out.symm.trans (chk_row HF.out HRO.out (any_at (rowBad en) lines m hlm hv))
          have HR := Lib.hid hres
          clear hres hv hcj hcl hc0 hc1 hc2 hb
          go_wp2_with fail
          go_ret
          rw [HR.out]
          exact ⟨rfl, HB3.out⟩
      · have hra : lines.any (rowBad en) = false := by
          have := hany.out
          rwa [take_all hm hlm] at this
        have HRA := Lib.hid hra
        clear hra hany hB2
        have hc := blk_cells hj2
        have hjl := blk_lt hj2
        clear hj2
        go_wp2_with fail
        clear hc
        go_loopw [5, 27] (fun vs vi wr3 => ∃ n : Nat, n ≤ lines.length ∧ vi = .int .i64 n ∧ vs = .int .i64 (sumA (lines.take n)) ∧ Hid ((lines.take n).any (fun l => !fitsB l.amt) = false) ∧ Below w.heap.size w wr3) (fun _ vi _ => lines.length - (Go.RowKit.intOf vi).toNat)
        case atStart => exact ⟨0, Nat.zero_le _, rfl, rfl, rfl, HB2.out⟩
        case round =>
          obtain ⟨k, hk, rfl, rfl, hfit, hB3⟩ := hrel
          have HB3 := Lib.hid hB3
          by_cases hlk : k < lines.length
          · obtain ⟨ad, rfl, _, hadl, hc0, hc1, hc2, hw1, hw2, hw3⟩ := ln_at (HS.out.keep fun k hk _ => hB3.block k hk) k hlk
            have hsb := sum_take_bound k (by omega) hfit.out
            have hsum := sumA_take_succ lines k hlk
            have HW2 := Lib.hid hw2
            clear hw1 hw2 hw3 hB3
            have hcl := blk_cells (blk_new wr (.cells #[.int .i64 lines[k].acc, .int .i64 lines[k].amt, .int .i64 lines[k].par] 74))
            have HM := Lib.hid (by have := blk_new (wr.alloc (.cells #[.int .i64 lines[k].acc, .int .i64 lines[k].amt, .int .i64 lines[k].par] 74)) (.cells #[.int .i64 lines[k].amt] 3); simpa using this : ((wr.alloc (.cells #[.int .i64 lines[k].acc, .int .i64 lines[k].amt, .int .i64 lines[k].par] 74)).alloc (.cells #[.int .i64 lines[k].amt] 3)).heap[wr.heap.size + 1]? = some (.cells #[.int .i64 lines[k].amt] 3 (0, 0)))
            have HB4 := Lib.hid ((HB3.out.alloc HB3.out.size (.cells #[.int .i64 lines[k].acc, .int .i64 lines[k].amt, .int .i64 lines[k].par] 74)).alloc (Nat.le_trans HB3.out.size (by simp)) (.cells #[.int .i64 lines[k].amt] 3))
            have HSUM := Lib.hid hsum
            clear hsum
            go_wp2_with fail
            cases hv : fitsB lines[k].amt
            · refine (mfits_is lines[k].amt _ _ HM.out HW2.out hv).mono ?_
              rintro e w' ⟨rfl, rfl⟩
              have hres : res = 2 := HC.out.symm.trans (chk_fits HF.out HRO.out HRA.out (any_at _ lines k hlk (by simp [hv])))
              have HR := Lib.hid hres
              clear hres hv
              go_wp2_with fail
              go_ret
              rw [HR.out]
              exact ⟨rfl, HB4.out⟩
            · refine (mfits_is lines[k].amt _ _ HM.out HW2.out hv).mono ?_
              rintro e w' ⟨rfl, rfl⟩
              have hnext := (any_take_succ (fun l : Ln => !fitsB l.amt) lines k hlk).trans (by rw [hfit.out, hv]; try rfl)
              have HN := Lib.hid hnext
              have hbd : -1000000000000000 ≤ lines[k].amt ∧ lines[k].amt ≤ 1000000000000000 := by simpa [fitsB] using hv
              clear hnext hv
              have hcl2 := blk_cells (blk_alloc (blk_new wr (.cells #[.int .i64 lines[k].acc, .int .i64 lines[k].amt, .int .i64 lines[k].par] 74)) (.cells #[.int .i64 lines[k].amt] 3))
              go_wp2_with fail
              go_roundw
              case rel => exact ⟨k + 1, by omega, by go_num, by rw [HSUM.out], HN.out, HB4.out⟩
              case measure => simp [Go.RowKit.intOf]; omega
          · have hfa : lines.any (fun l => !fitsB l.amt) = false := by
              have := hfit.out
              rwa [take_all hk hlk] at this
            have hch := HC.out.symm.trans (chk_sum HF.out HRO.out HRA.out hfa)
            simp only at hch
            rw [take_all hk hlk]
            clear hfa hfit hB3
            by_cases hz : sumA lines = 0
            · have hres : res = 0 := by rw [hch, hz]; rfl
              have HR := Lib.hid hres
              clear hres hch
              rw [hz]
              go_wp2_with fail
              go_ret
              rw [HR.out]
              exact ⟨rfl, HB3.out⟩
            · have hres : res = 3 := by rw [hch, if_pos (by simpa using hz)]
              have hz' : (sumA lines != 0) = true := by simpa using hz
              have HR := Lib.hid hres
              clear hres hch
              go_wp2_with fail
              go_ret
              rw [HR.out]
              exact ⟨rfl, HB3.out⟩
end Go.Proofs.YtgggpaacagbmcaaGreat
