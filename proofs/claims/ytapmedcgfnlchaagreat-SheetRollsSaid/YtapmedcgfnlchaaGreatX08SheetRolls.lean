/- Copies of journals: the document's Copy, slices.Clone at lines, entry.Copy. -/
import Derived.Test.YtapmedcgfnlchaaGreatX06SheetRolls
import Derived.Test.YtapmedcgfnlchaaGreatX07SheetRolls
set_option linter.unusedVariables false
set_option linter.unusedSimpArgs false
namespace Go.Proofs.YtapmedcgfnlchaaGreat
open Go.RowKit Go.Maps

abbrev jcs (j : Jn) (a : Option Addr) (cap : Nat) : List Value := [.int .i64 j.id, .int .i64 j.en, .int .i64 j.pe, .string j.ref, .slice a j.lines.length cap, .bool j.void]
theorem jcs_inv {w : World} {F : Nat → Prop} {j : Jn} {a : Option Addr} {cap : Nat} (h : tJn.R w F (jcs j a cap) j) :
    I64 j.id ∧ I64 j.en ∧ I64 j.pe ∧ j.ref.size ≤ 140737488351232 ∧ Sl tLn w F a j.lines ∧ j.lines.length ≤ cap ∧ cap ≤ maxLen ∧ j.lines.length * Tryz.prog.bytesOf 57 ≤ 140737488351232 := by
  obtain ⟨a', cap', he, h1, h2, h3, h4, h5, h6, h7, h8⟩ := jn_inv h
  simp at he
  obtain ⟨rfl, rfl⟩ := he
  exact ⟨h1, h2, h3, h4, h5, h6, h7, h8⟩
theorem ln_free (w : World) (F G : Nat → Prop) (c : List Value) (x : Ln) (h : tLn.R w F c x) : tLn.R w G c x := by
  obtain ⟨rfl, h1, h2, h3⟩ := ln_inv h
  exact ln_mk x h1 h2 h3
theorem ln_one (w : World) (F : Nat → Prop) (c : List Value) (x : Ln) (h : tLn.R w F c x) : ∀ u ∈ c, u.oneCell' = true := by
  obtain ⟨rfl, h1, h2, h3⟩ := ln_inv h
  simp [Value.oneCell']
theorem infoL : (Tryz.prog.info? 57).map (fun i => (i.zero, i.size, i.bytes)) = some (some (.agg #[.int .i64 0, .int .i64 0, .int .i64 0]), 3, 24) := by kernel_rfl
theorem sl_some {w : World} {F : Nat → Prop} {a : Option Addr} {l : List Ln} (h : Sl tLn w F a l) (hne : l ≠ []) : ∃ ad, a = some ad := by
  cases l with
  | nil => exact absurd rfl hne
  | cons x r =>
    obtain ⟨ad, _, h, _⟩ := h 0 x rfl
    exact ⟨ad, h⟩
theorem sl_app {w W : World} {F : Nat → Prop} {a : Option Addr} {l : List Ln} (h : Sl tLn w F a l) (hb : Below w.heap.size w W) {o : Option Nat} (ho : ∀ k, o = some k → w.heap.size ≤ k) :
    Sl tLn W (fun k => some k ≠ o ∧ k < W.heap.size) a l := by
  intro i x hi
  obtain ⟨ad, ces, h1, h2, h3, h4, h5⟩ := h i x hi
  obtain ⟨ad', ces', h1', _, h3', h4', h5'⟩ := (Sl.keep (fun k hk _ => hb.block k hk) h) i x hi
  rw [h1] at h1'
  injection h1' with h1'
  subst h1'
  exact ⟨ad, ces', h1, ⟨fun e => by have := ho _ e.symm; omega, h3'⟩, h3', h4', ln_free _ _ _ _ _ h5'⟩

def CopyPost (w : World) (j : Jn) (e : Ending) (w' : World) : Prop :=
  ∃ a cap, e = .returned (jnv j a cap) ∧ Below w.heap.size w w' ∧ tJn.R w' (fun k => w.heap.size ≤ k ∧ k < w'.heap.size) (jcs j a cap) j

theorem copy_post {w w1 w2 : World} {j : Jn} {a : Option Addr} {cap : Nat} {F : Nat → Prop} (hj : tJn.R w F (jcs j a cap) j) {v : Value} (ho : OwnL tLn w1 w.heap.size v j.lines) (hb : Below w.heap.size w w2)
    (hs : w1.heap.size ≤ w2.heap.size) (hk : ∀ k, v.ownBlock = some k → w2.heap[k]? = w1.heap[k]?) : ∃ a' cap', v = .slice a' j.lines.length cap' ∧ CopyPost w j (.returned (jnv j a' cap')) w2 := by
  obtain ⟨h1, h2, h3, h4, _, _, _, h8⟩ := jcs_inv hj
  have hown := ho.lt
  obtain ⟨a', cap', rfl, h6, h7, h5⟩ := ho.slice_free ln_free
  refine ⟨a', cap', rfl, a', cap', rfl, hb, ?_⟩
  refine jn_mk j h1 h2 h3 h4 (fun i x hi => ?_) h6 h7 h8
  obtain ⟨ad, ces, rfl, hf, hl, hc, hr⟩ := h5 i x hi
  have hsame := hk _ rfl
  refine ⟨ad, ces, rfl, ⟨hf.1, Nat.lt_of_lt_of_le hl hs⟩, Nat.lt_of_lt_of_le hl hs, fun jj u hu => ?_, ln_free _ _ _ _ _ (tLn.keep (w' := w2) (F := fun _ => False) (fun _ _ h => h.elim) (ln_free _ _ _ _ _ hr))⟩
  rw [← hc jj u hu]
  exact World.cell?_of_block (w := w1) (by rw [add_block, add_block]; exact hsame)

theorem copy_end {w w1 w2 : World} {j : Jn} {a : Option Addr} {cap : Nat} {F : Nat → Prop} (hj : tJn.R w F (jcs j a cap) j) {a2 : Option Addr} {cap2 : Nat} (ho : OwnL tLn w1 w.heap.size (.slice a2 j.lines.length cap2) j.lines) (hb : Below w.heap.size w w2)
    (hs : w1.heap.size ≤ w2.heap.size) (hk : ∀ k, (Value.slice a2 j.lines.length cap2).ownBlock = some k → w2.heap[k]? = w1.heap[k]?) : CopyPost w j (.returned (jnv j a2 cap2)) w2 := by
  obtain ⟨a', cap', he, hp⟩ := copy_post hj ho hb hs hk
  injection he with e1 e2 e3
  subst e1
  subst e3
  exact hp

set_option maxHeartbeats 400000 in
set_option maxRecDepth 100000 in
theorem rcopy_any (j : Jn) (a : Option Addr) (cap : Nat) (w : World) {F : Nat → Prop} (hj : tJn.R w F (jcs j a cap) j) (hne : j.lines ≠ []) :
    Calls Tryz.prog 86 #[jnv j a cap] w (CopyPost w j) := by
  obtain ⟨h1, h2, h3, h4, h5, h6, h7, h8⟩ := jcs_inv hj
  obtain ⟨ad, rfl⟩ := sl_some h5 hne
  have HJ := Lib.hid hj
  have HS := Lib.hid h5
  rw [line_bytes] at h8
  have h63 : ([] : List Ln).length + j.lines.length ≤ maxLen := by simp only [List.length_nil]; omega
  have hbytes : (([] : List Ln).length + j.lines.length) * 24 ≤ 140737488355328 := by simp only [List.length_nil]; omega
  clear h1 h2 h3 h4 h5 h6 h7 h8 hj hne
  obtain ⟨i0, hi, hz0, hz1, hz2⟩ := info_parts infoL
  obtain ⟨id, en, pe, ref, lines, void⟩ := j
  simp only at HS h63 hbytes
  have HB := Lib.hid (((Below.refl w.heap.size w).alloc (Nat.le_refl _) (.cells #[.int .i64 id, .int .i64 en, .int .i64 pe, .string ref, .slice (some ad) lines.length cap, .bool void] 60)).alloc (by simp) (.cells #[.int .i64 0, .int .i64 0, .int .i64 0, .string ⟨#[]⟩, .slice none 0 0, .bool false] 60))
  have HK := Lib.hid (blk_alloc (blk_new w (.cells #[.int .i64 id, .int .i64 en, .int .i64 pe, .string ref, .slice (some ad) lines.length cap, .bool void] 60)) (.cells #[.int .i64 0, .int .i64 0, .int .i64 0, .string ⟨#[]⟩, .slice none 0 0, .bool false] 60))
  have HZ := Lib.hid (by have := blk_new (w.alloc (.cells #[.int .i64 id, .int .i64 en, .int .i64 pe, .string ref, .slice (some ad) lines.length cap, .bool void] 60)) (.cells #[.int .i64 0, .int .i64 0, .int .i64 0, .string ⟨#[]⟩, .slice none 0 0, .bool false] 60); simpa using this : ((w.alloc (.cells #[.int .i64 id, .int .i64 en, .int .i64 pe, .string ref, .slice (some ad) lines.length cap, .bool void] 60)).alloc (.cells #[.int .i64 0, .int .i64 0, .int .i64 0, .string ⟨#[]⟩, .slice none 0 0, .bool false] 60)).heap[w.heap.size + 1]? = some (.cells #[.int .i64 0, .int .i64 0, .int .i64 0, .string ⟨#[]⟩, .slice none 0 0, .bool false] 60 (0, 0)))
  go_enter Tryz.func86, Tryz.ntmps86
  go_wp2_with (first
    | (at_builtin; refine wp_app (T := tLn) rfl _ _ 58 rfl i0 (.agg #[.int .i64 0, .int .i64 0, .int .i64 0]) 24 Tryz.underlying58 hi hz0 hz1 hz2 rfl (by decide) ln_one (w.heap.size + 2) (.slice none 0 0) [] rfl (OwnL.nil _ _) ad cap lines rfl (sl_app HS.out HB.out (fun k e => by cases e)) h63 hbytes (by simp) ?_; intro v' w2 hown hg hnil hat
       rw [List.nil_append] at hown
       obtain ⟨a2, cap2, rfl, _⟩ := hown.slice
       have hJ2 := (hg.block w.heap.size (blk_lt HK.out) (by simp [Value.ownBlock])).trans HK.out
       have hZ2 := (hg.block (w.heap.size + 1) (blk_lt HZ.out) (by simp [Value.ownBlock])).trans HZ.out
       have HB2 := Lib.hid (HB.out.grown hg (by simp; omega) (fun k e => by simp [Value.ownBlock] at e))
       have HOWN := Lib.hid hown
       have hJc := blk_cells hJ2
       have hJf := blk_frz hJ2
       have hZc := blk_cells hZ2
       have hZf := blk_frz hZ2
       have HJ2 := Lib.hid hJ2
       have HZ2 := Lib.hid hZ2
       clear hown hg hnil hat hJ2 hZ2))
  have hlt := HOWN.out.lt
  have hfin := blk_set (blk_set (blk_set (blk_set (blk_set (blk_set (blk_far HZ2.out (p := ⟨w.heap.size, 4, none⟩) (by simp) (.slice a2 lines.length cap2)) 0 (.int .i64 id)) 1 (.int .i64 en)) 2 (.int .i64 pe)) 3 (.string ref)) 4 (.slice a2 lines.length cap2)) 5 (.bool void)
  simp at hfin
  generalize hw4 : (World.setCell _ (⟨w.heap.size + 1, 5, none⟩ : Addr) _) = w4 at hfin ⊢
  have hb4 : Below w.heap.size w w4 := by
    rw [← hw4]
    iterate 7 (refine Below.setCell ?_ (by simp) _)
    exact HB2.out
  have hs4 : w2.heap.size ≤ w4.heap.size := by rw [← hw4]; simp
  have hk4 : ∀ k, (Value.slice a2 lines.length cap2).ownBlock = some k → w4.heap[k]? = w2.heap[k]? := by
    intro k hk
    have hk2 := hlt k hk
    rw [← hw4]
    iterate 7 (rw [Below.heap_setCell _ _ _ k (by simp; omega)])
  clear hw4
  refine bodyPost_ret (v := jnv ⟨id, en, pe, ref, lines, void⟩ a2 cap2) ?_ rfl ?_
  · refine results_cell_row (fn := Tryz.f86) (p := 2) (ty := 60) rfl _ _ (w.heap.size + 1) 60 #[.int .i64 id, .int .i64 en, .int .i64 pe, .string ref, .slice a2 lines.length cap2, .bool void] (0, 0) _ ?_ ?_ Tryz.underlying60 rfl (by kernel_rfl)
    · rfl
    · exact hfin
  · exact copy_end (w1 := w2) HJ.out (HOWN.out.mono (by omega)) hb4 hs4 hk4
end Go.Proofs.YtapmedcgfnlchaaGreat
