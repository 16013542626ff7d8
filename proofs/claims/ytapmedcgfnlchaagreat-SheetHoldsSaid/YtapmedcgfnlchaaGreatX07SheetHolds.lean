/- Contracts of the package entry: front, Check. -/
import Derived.Test.YtapmedcgfnlchaaGreatX06SheetHolds
set_option linter.unusedVariables false
set_option linter.unusedSimpArgs false
namespace Go.Proofs.YtapmedcgfnlchaaGreat
open Go.RowKit Go.Maps

def frontE (j : Jn) : Bool := !frontBad j && refOk j.ref
theorem frontE_bad {j : Jn} (h : frontE j = false) : j.id < 1 ∨ 1 ≤ j.id ∧ (999999 < j.id ∨ j.id ≤ 999999 ∧ (entB j.en = false ∨ entB j.en = true ∧ (monthOk j.pe = false ∨ monthOk j.pe = true ∧ (namedB j.ref = false ∨ namedB j.ref = true ∧ ((j.lines.length : Int) < 2 ∨ 2 ≤ (j.lines.length : Int) ∧ 8 < (j.lines.length : Int)))))) := by
  have h' : frontBad j = true ∨ refOk j.ref = false := by
    simp only [frontE, Bool.and_eq_false_iff, Bool.not_eq_false'] at h
    exact h
  by_cases a1 : j.id < 1
  · exact .inl a1
  refine .inr ⟨by omega, ?_⟩
  by_cases a2 : 999999 < j.id
  · exact .inl a2
  refine .inr ⟨by omega, ?_⟩
  cases a3 : entB j.en
  · exact .inl rfl
  refine .inr ⟨rfl, ?_⟩
  cases a4 : monthOk j.pe
  · exact .inl rfl
  refine .inr ⟨rfl, ?_⟩
  cases a5 : namedB j.ref
  · exact .inl rfl
  refine .inr ⟨rfl, ?_⟩
  by_cases a6 : (j.lines.length : Int) < 2
  · exact .inl a6
  refine .inr ⟨by omega, ?_⟩
  have a5' : refOk j.ref = true ∧ (j.ref.size : Int) ≤ 8 := by simpa [namedB] using a5
  have a3' : 1 ≤ j.en ∧ j.en ≤ 9 := by simpa [entB] using a3
  rcases h' with h' | h'
  · have hf := front_cases h'
    rw [a4] at hf
    simp only [Bool.true_eq_false, false_or, true_and] at hf
    omega
  · rw [a5'.1] at h'; cases h'
theorem frontE_ok {j : Jn} (h : frontE j = true) : 1 ≤ j.id ∧ j.id ≤ 999999 ∧ entB j.en = true ∧ monthOk j.pe = true ∧ namedB j.ref = true ∧ 2 ≤ (j.lines.length : Int) ∧ (j.lines.length : Int) ≤ 8 := by
  simp only [frontE, Bool.and_eq_true, Bool.not_eq_true'] at h
  obtain ⟨h1, h2, h3, h4, h5, h6, h7, h8⟩ := front_ok h.1
  exact ⟨h1, h2, by simp [entB, h3, h4], h5, by simp [namedB, h.2]; omega, h7, h8⟩
theorem named_is (r : ByteArray) (hsz : r.size ≤ 140737488351232) {b : Bool} (h : namedB r = b) (w : World) : Calls Tryz.prog 98 #[.string r] w fun e w' => e = .returned (.bool b) ∧ w' = w := by
  have := named_any r hsz w
  rwa [h] at this
theorem term_valid_is (m : Int) (b : Nat) (w : World) (hm : w.heap[b]? = some (.cells #[.int .i64 m] 3 (0, 0))) (hw : (Lit.int .i64 m).wf = true) {x : Bool} (h : monthOk m = x) :
    Calls Tryz.prog 27 #[.slice (some ⟨b, 0, none⟩) 1 1] w fun e w' => e = .returned (.bool x) ∧ Below w.heap.size w w' := by
  have := term_valid1 m b w hm hw
  rwa [h] at this

set_option maxHeartbeats 4000000 in
theorem efront_any (j : Jn) (a : Option Addr) (cap : Nat) (w : World) (hsz : j.ref.size ≤ 140737488351232) (hpe : I64 j.pe) :
    Calls Tryz.prog 72 #[jnv j a cap] w fun e w' => e = .returned (.bool (frontE j)) ∧ Below w.heap.size w w' := by
  cases hv : frontE j
  · have hb := frontE_bad hv
    clear hv
    obtain ⟨id, en, pe, ref, lines, void⟩ := j
    simp only at hb hsz hpe
    have HPE := Lib.hid hpe
    clear hpe
    rcases hb with h | ⟨h1, h | ⟨h2, h | ⟨h3, h⟩⟩⟩
    iterate 2
      go_enter Tryz.func72, Tryz.ntmps72
      go_wp2_with fail
      go_ret
      exact ⟨rfl, (Below.refl _ _).alloc (Nat.le_refl _) _⟩
    · have H := Lib.hid h
      clear h
      go_enter Tryz.func72, Tryz.ntmps72
      go_wp2_with fail
      refine (entity_is _ H.out _).mono ?_
      rintro e w' ⟨rfl, rfl⟩
      go_wp2_with fail
      go_ret
      exact ⟨rfl, (Below.refl _ _).alloc (Nat.le_refl _) _⟩
    · have H3 := Lib.hid h3
      clear h3
      rcases h with h | ⟨h4, h⟩
      · have H := Lib.hid h
        clear h
        go_enter Tryz.func72, Tryz.ntmps72
        go_wp2_with fail
        refine (entity_is _ H3.out _).mono ?_
        rintro e w' ⟨rfl, rfl⟩
        go_wp2_with fail
        refine (term_valid_is pe _ _ (by have := blk_new (w.alloc (.cells #[.int .i64 id, .int .i64 en, .int .i64 pe, .string ref, .slice a lines.length cap, .bool void] 60)) (.cells #[.int .i64 pe] 3); simpa using this) HPE.out H.out).mono ?_
        rintro e w1 ⟨rfl, hb⟩
        have hc := blk_cells (blk_below (blk_alloc (blk_new w (.cells #[.int .i64 id, .int .i64 en, .int .i64 pe, .string ref, .slice a lines.length cap, .bool void] 60)) (.cells #[.int .i64 pe] 3)) hb)
        have HB := Lib.hid (belows_then (((Below.refl w.heap.size w).alloc (Nat.le_refl _) (.cells #[.int .i64 id, .int .i64 en, .int .i64 pe, .string ref, .slice a lines.length cap, .bool void] 60)).alloc (by simp) (.cells #[.int .i64 pe] 3)) (by simp; omega) hb)
        clear hb
        go_wp2_with fail
        go_ret
        exact ⟨rfl, HB.out⟩
      · have H4 := Lib.hid h4
        clear h4
        rcases h with h | ⟨h5, h⟩
        · have H := Lib.hid h
          clear h
          go_enter Tryz.func72, Tryz.ntmps72
          go_wp2_with fail
          refine (entity_is _ H3.out _).mono ?_
          rintro e w' ⟨rfl, rfl⟩
          go_wp2_with fail
          refine (term_valid_is pe _ _ (by have := blk_new (w.alloc (.cells #[.int .i64 id, .int .i64 en, .int .i64 pe, .string ref, .slice a lines.length cap, .bool void] 60)) (.cells #[.int .i64 pe] 3); simpa using this) HPE.out H4.out).mono ?_
          rintro e w1 ⟨rfl, hb⟩
          have hc := blk_cells (blk_below (blk_alloc (blk_new w (.cells #[.int .i64 id, .int .i64 en, .int .i64 pe, .string ref, .slice a lines.length cap, .bool void] 60)) (.cells #[.int .i64 pe] 3)) hb)
          have HB := Lib.hid (belows_then (((Below.refl w.heap.size w).alloc (Nat.le_refl _) (.cells #[.int .i64 id, .int .i64 en, .int .i64 pe, .string ref, .slice a lines.length cap, .bool void] 60)).alloc (by simp) (.cells #[.int .i64 pe] 3)) (by simp; omega) hb)
          clear hb
          go_wp2_with fail
          refine (named_is _ hsz H.out _).mono ?_
          rintro e w' ⟨rfl, rfl⟩
          go_wp2_with fail
          go_ret
          exact ⟨rfl, HB.out⟩
        · have H5 := Lib.hid h5
          clear h5
          rcases h with h | ⟨h6, h⟩
          all_goals
            go_enter Tryz.func72, Tryz.ntmps72
            go_wp2_with fail
            refine (entity_is _ H3.out _).mono ?_
            rintro e w' ⟨rfl, rfl⟩
            go_wp2_with fail
            refine (term_valid_is pe _ _ (by have := blk_new (w.alloc (.cells #[.int .i64 id, .int .i64 en, .int .i64 pe, .string ref, .slice a lines.length cap, .bool void] 60)) (.cells #[.int .i64 pe] 3); simpa using this) HPE.out H4.out).mono ?_
            rintro e w1 ⟨rfl, hb⟩
            have hc := blk_cells (blk_below (blk_alloc (blk_new w (.cells #[.int .i64 id, .int .i64 en, .int .i64 pe, .string ref, .slice a lines.length cap, .bool void] 60)) (.cells #[.int .i64 pe] 3)) hb)
            have HB := Lib.hid (belows_then (((Below.refl w.heap.size w).alloc (Nat.le_refl _) (.cells #[.int .i64 id, .int .i64 en, .int .i64 pe, .string ref, .slice a lines.length cap, .bool void] 60)).alloc (by simp) (.cells #[.int .i64 pe] 3)) (by simp; omega) hb)
            clear hb
            go_wp2_with fail
            refine (named_is _ hsz H5.out _).mono ?_
            rintro e w' ⟨rfl, rfl⟩
            go_wp2_with fail
            go_ret
            refine ⟨?_, HB.out⟩
            first
            | rfl
            | (simp; omega)
  · obtain ⟨h1, h2, h3, h4, h5, h6, h7⟩ := frontE_ok hv
    clear hv
    obtain ⟨id, en, pe, ref, lines, void⟩ := j
    simp only at h1 h2 h3 h4 h5 h6 h7 hsz hpe
    have HPE := Lib.hid hpe
    have H3 := Lib.hid h3
    have H4 := Lib.hid h4
    have H5 := Lib.hid h5
    clear hpe h3 h4 h5
    go_enter Tryz.func72, Tryz.ntmps72
    go_wp2_with fail
    refine (entity_is _ H3.out _).mono ?_
    rintro e w' ⟨rfl, rfl⟩
    go_wp2_with fail
    refine (term_valid_is pe _ _ (by have := blk_new (w.alloc (.cells #[.int .i64 id, .int .i64 en, .int .i64 pe, .string ref, .slice a lines.length cap, .bool void] 60)) (.cells #[.int .i64 pe] 3); simpa using this) HPE.out H4.out).mono ?_
    rintro e w1 ⟨rfl, hb⟩
    have hc := blk_cells (blk_below (blk_alloc (blk_new w (.cells #[.int .i64 id, .int .i64 en, .int .i64 pe, .string ref, .slice a lines.length cap, .bool void] 60)) (.cells #[.int .i64 pe] 3)) hb)
    have HB := Lib.hid (belows_then (((Below.refl w.heap.size w).alloc (Nat.le_refl _) (.cells #[.int .i64 id, .int .i64 en, .int .i64 pe, .string ref, .slice a lines.length cap, .bool void] 60)).alloc (by simp) (.cells #[.int .i64 pe] 3)) (by simp; omega) hb)
    clear hb
    go_wp2_with fail
    refine (named_is _ hsz H5.out _).mono ?_
    rintro e w' ⟨rfl, rfl⟩
    go_wp2_with fail
    go_ret
    refine ⟨?_, HB.out⟩
    first
    | rfl
    | (simp; omega)
end Go.Proofs.YtapmedcgfnlchaaGreat
