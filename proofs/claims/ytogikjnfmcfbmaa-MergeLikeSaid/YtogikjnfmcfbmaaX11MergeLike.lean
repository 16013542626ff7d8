/- slices.Clone at lines, entry.Copy. -/
import Derived.Test.YtogikjnfmcfbmaaX10MergeLike
import Derived.Lib.BufferMore
set_option linter.unusedVariables false
set_option linter.unusedSimpArgs false
namespace Go.Proofs.Ytogikjnfmcfbmaa
open Go.RowKit Go.Maps

def ClonePost (w : World) (l : List Ln) (e : Ending) (w' : World) : Prop :=
  ∃ a cap, e = .returned (.slice a l.length cap) ∧ Below w.heap.size w w' ∧ OwnL tLn w' w.heap.size (.slice a l.length cap) l
theorem ownL_empty {P : Program} {e : TypeId} {α : Type} (T : Ty P e α) (w : World) : OwnL T (w.alloc (.cells #[] e)) w.heap.size (.slice (some ⟨w.heap.size, 0, none⟩) 0 0) [] :=
  ⟨[], ⟨by simp, .inr ⟨w.heap.size, 0, #[], rfl, Nat.le_refl _, blk_new _ _, Nat.le_refl _, Nat.zero_le _, by simp, by simp⟩⟩, rfl, by simp, by simp⟩

set_option maxHeartbeats 1000000 in
set_option maxRecDepth 100000 in
theorem cloneL_any (l : List Ln) (a : Option Addr) (cap : Nat) (w : World) {F : Nat → Prop} (hs : Sl tLn w F a l) (hne : l ≠ []) (hl : l.length ≤ maxLen) (h24 : l.length * 24 ≤ 140737488351232) :
    Calls Try.prog 58 #[.slice a l.length cap] w (ClonePost w l) := by
  obtain ⟨ad, rfl⟩ := sl_some hs hne
  have HS := Lib.hid hs
  have h63 : ([] : List Ln).length + l.length ≤ maxLen := by simp only [List.length_nil]; omega
  have hbytes : (([] : List Ln).length + l.length) * 24 ≤ 140737488355328 := by simp only [List.length_nil]; omega
  clear hs hne hl h24
  obtain ⟨i0, hi, hz0, hz1, hz2⟩ := info_parts infoL
  have HB := Lib.hid ((Below.refl w.heap.size w).alloc (Nat.le_refl _) (.cells #[] 61))
  have hnil := fun W => Lib.run_eql_slice_some_nil (P := Try.prog) W (t := 29) ad l.length cap Try.underlying29
  go_enter Try.func58, Try.ntmps58
  go_wp2_with (first
    | (at_builtin; refine wp_app (T := tLn) rfl _ _ 29 rfl i0 (.agg #[.int .i64 0, .int .i64 0, .int .i64 0]) 24 Try.underlying29 hi hz0 hz1 hz2 rfl (by decide) ln_one w.heap.size (.slice (some ⟨w.heap.size, 0, none⟩) 0 0) [] rfl (ownL_empty tLn w) ad cap l rfl (sl_app HS.out HB.out (fun k e => by simp [Value.ownBlock] at e; omega)) h63 hbytes (by simp) ?_; intro v' w2 hown hg hnil hat
       rw [List.nil_append] at hown
       obtain ⟨a2, cap2, rfl, _⟩ := hown.slice
       have HB2 := Lib.hid (HB.out.grown hg (by simp) (fun k e => by simp [Value.ownBlock] at e; omega))
       have HOWN := Lib.hid hown
       clear hown hg hnil hat))
  go_ret
  exact ⟨_, _, rfl, HB2.out, HOWN.out⟩

set_option maxHeartbeats 1000000 in
set_option maxRecDepth 100000 in
theorem ecopy_any (j : Jn) (a : Option Addr) (cap : Nat) (w : World) {F : Nat → Prop} (hj : tJn.R w F (jcs j a cap) j) (hne : j.lines ≠ []) :
    Calls Try.prog 44 #[jnv j a cap] w (CopyPost w j) := by
  obtain ⟨h1, h2, h3, h4, h5, h6, h7, h8⟩ := jcs_inv hj
  have HJ := Lib.hid hj
  have HS := Lib.hid h5
  rw [line_bytes] at h8
  have HNE := Lib.hid hne
  have HM := Lib.hid (show j.lines.length ≤ maxLen by omega)
  have H24 := Lib.hid h8
  clear h1 h2 h3 h4 h5 h6 h7 h8 hj hne
  obtain ⟨id, en, pe, ref, lines, void⟩ := j
  simp only at HS HNE HM H24
  have HB := Lib.hid (((Below.refl w.heap.size w).alloc (Nat.le_refl _) (.cells #[.int .i64 id, .int .i64 en, .int .i64 pe, .string ref, .slice a lines.length cap, .bool void] 31)).alloc (by simp) (.cells #[.int .i64 0, .int .i64 0, .int .i64 0, .string ⟨#[]⟩, .slice none 0 0, .bool false] 31))
  have HK := Lib.hid (blk_alloc (blk_new w (.cells #[.int .i64 id, .int .i64 en, .int .i64 pe, .string ref, .slice a lines.length cap, .bool void] 31)) (.cells #[.int .i64 0, .int .i64 0, .int .i64 0, .string ⟨#[]⟩, .slice none 0 0, .bool false] 31))
  have HZ := Lib.hid (by have := blk_new (w.alloc (.cells #[.int .i64 id, .int .i64 en, .int .i64 pe, .string ref, .slice a lines.length cap, .bool void] 31)) (.cells #[.int .i64 0, .int .i64 0, .int .i64 0, .string ⟨#[]⟩, .slice none 0 0, .bool false] 31); simpa using this : ((w.alloc (.cells #[.int .i64 id, .int .i64 en, .int .i64 pe, .string ref, .slice a lines.length cap, .bool void] 31)).alloc (.cells #[.int .i64 0, .int .i64 0, .int .i64 0, .string ⟨#[]⟩, .slice none 0 0, .bool false] 31)).heap[w.heap.size + 1]? = some (.cells #[.int .i64 0, .int .i64 0, .int .i64 0, .string ⟨#[]⟩, .slice none 0 0, .bool false] 31 (0, 0)))
  go_enter Try.func44, Try.ntmps44
  go_wp2_with fail
  refine (cloneL_any lines a cap _ (Sl.keep (fun k hk _ => HB.out.block k hk) HS.out) HNE.out HM.out H24.out).mono ?_
  rintro e w2 ⟨a2, cap2, rfl, hb, hown⟩
  have hJ2 := blk_below HK.out hb
  have hZ2 := blk_below HZ.out hb
  have HB2 := Lib.hid (belows_then HB.out (by simp; omega) hb)
  have HOWN := Lib.hid (hown.mono (show w.heap.size + 2 ≤ _ by simp))
  have hJc := blk_cells hJ2
  have hJf := blk_frz hJ2
  have hZc := blk_cells hZ2
  have hZf := blk_frz hZ2
  have HJ2 := Lib.hid hJ2
  have HZ2 := Lib.hid hZ2
  clear hown hb hJ2 hZ2
  go_wp2_with fail
  have hlt := HOWN.out.lt
  have hfin := blk_set (blk_set (blk_set (blk_set (blk_set (blk_set (blk_far HZ2.out (p := ⟨w.heap.size, 4, none⟩) (by simp) (.slice a2 lines.length cap2)) 0 (.int .i64 id)) 1 (.int .i64 en)) 2 (.int .i64 pe)) 3 (.string ref)) 4 (.slice a2 lines.length cap2)) 5 (.bool void)
  simp at hfin
  generalize hw4 : (World.setCell _ (⟨w.heap.size + 1, 5, none⟩ : Addr) _) = w4 at hfin ⊢
  have hb4 : Below w.heap.size w w4 := by
    rw [← hw4]
    iterate 7 (refine Below.setCell ?_ (by simp) _)
    exact HB2.out
  have hs4 : w2.heap.size ≤ w4.heap.size := by rw [← hw4]; simp
  have hk4 : ∀ k, (Value.slice a2 lines.length cap2).ownBlock = some k → w4.heap[k]? = w2.heap[k]? := by
    intro k hk
    have hk2 := hlt k hk
    rw [← hw4]
    iterate 7 (rw [Below.heap_setCell _ _ _ k (by simp; omega)])
  clear hw4
  refine bodyPost_ret (v := jnv ⟨id, en, pe, ref, lines, void⟩ a2 cap2) ?_ rfl ?_
  · refine results_cell_row (fn := Try.f44) (p := 2) (ty := 31) rfl _ _ (w.heap.size + 1) 31 #[.int .i64 id, .int .i64 en, .int .i64 pe, .string ref, .slice a2 lines.length cap2, .bool void] (0, 0) _ ?_ ?_ Try.underlying31 rfl (by kernel_rfl)
    · rfl
    · exact hfin
  · exact copy_end (w1 := w2) HJ.out (HOWN.out.mono (by omega)) hb4 hs4 hk4
end Go.Proofs.Ytogikjnfmcfbmaa
