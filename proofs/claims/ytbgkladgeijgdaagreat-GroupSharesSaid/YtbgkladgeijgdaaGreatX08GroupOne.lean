/- slices.Clone at lines, entry.Copy. -/
import Derived.Test.YtbgkladgeijgdaaGreatX07GroupOne
import Derived.Lib.BufferMore
import Derived.Laws.ResultCell
set_option linter.unusedVariables false
set_option linter.unusedSimpArgs false
namespace Go.Proofs.YtbgkladgeijgdaaGreat
open Go.RowKit Go.Maps

def ClonePost (w : World) (l : List Ln) (e : Ending) (w' : World) : Prop :=
  ∃ a cap, e = .returned (.slice a l.length cap) ∧ Below w.heap.size w w' ∧ OwnL tLn w' w.heap.size (.slice a l.length cap) l
theorem ownL_empty {P : Program} {e : TypeId} {α : Type} (T : Ty P e α) (w : World) : OwnL T (w.alloc (.cells #[] e)) w.heap.size (.slice (some ⟨w.heap.size, 0, none⟩) 0 0) [] :=
  ⟨[], ⟨by simp, .inr ⟨w.heap.size, 0, #[], rfl, Nat.le_refl _, blk_new _ _, Nat.le_refl _, Nat.zero_le _, by simp, by simp⟩⟩, rfl, by simp, by simp⟩

set_option maxHeartbeats 1000000 in
set_option maxRecDepth 100000 in
theorem cloneL_any (l : List Ln) (a : Option Addr) (cap : Nat) (w : World) {F : Nat → Prop} (hs : Sl tLn w F a l) (hne : l ≠ []) (hl : l.length ≤ maxLen) (h24 : l.length * 24 ≤ 140737488351232) :
    Calls Tryz.prog 165 #[.slice a l.length cap] w (ClonePost w l) := by
  obtain ⟨ad, rfl⟩ := sl_some hs hne
  have HS := Lib.hid hs
  have h63 : ([] : List Ln).length + l.length ≤ maxLen := by simp only [List.length_nil]; omega
  have hbytes : (([] : List Ln).length + l.length) * 24 ≤ 140737488355328 := by simp only [List.length_nil]; omega
  clear hs hne hl h24
  obtain ⟨i0, hi, hz0, hz1, hz2⟩ := info_parts infoL
  have HB := Lib.hid ((Below.refl w.heap.size w).alloc (Nat.le_refl _) (.cells #[] 81))
  have hnil := fun W => Lib.run_eql_slice_some_nil (P := Tryz.prog) W (t := 75) ad l.length cap Tryz.underlying75
  go_enter Tryz.func165, Tryz.ntmps165
  go_wp2_with (first
    | (at_builtin; refine wp_app (T := tLn) rfl _ _ 75 rfl i0 (.agg #[.int .i64 0, .int .i64 0, .int .i64 0]) 24 Tryz.underlying75 hi hz0 hz1 hz2 rfl (by decide) ln_one w.heap.size (.slice (some ⟨w.heap.size, 0, none⟩) 0 0) [] rfl (ownL_empty tLn w) ad cap l rfl (sl_app HS.out HB.out (fun k e => by simp [Value.ownBlock] at e; omega)) h63 hbytes (by simp) ?_; intro v' w2 hown hg hnil hat
       rw [List.nil_append] at hown
       obtain ⟨a2, cap2, rfl, _⟩ := hown.slice
       have HB2 := Lib.hid (HB.out.grown hg (by simp) (fun k e => by simp [Value.ownBlock] at e; omega))
       have HOWN := Lib.hid hown
       clear hown hg hnil hat))
  go_ret
  exact ⟨_, _, rfl, HB2.out, HOWN.out⟩

set_option maxHeartbeats 1000000 in
set_option maxRecDepth 100000 in
theorem ecopy_any (j : Jn) (a : Option Addr) (cap : Nat) (w : World) {F : Nat → Prop} (hj : tJn.R w F (jcs j a cap) j) (hne : j.lines ≠ []) :
    Calls Tryz.prog 147 #[jnv j a cap] w (CopyPost w j) := by
  obtain ⟨h1, h2, h3, h4, h5, h6, h7, h8⟩ := jcs_inv hj
  have HJ := Lib.hid hj
  have HS := Lib.hid h5
  rw [line_bytes] at h8
  have HNE := Lib.hid hne
  have HM := Lib.hid (show j.lines.length ≤ maxLen by omega)
  have H24 := Lib.hid h8
  clear h1 h2 h3 h4 h5 h6 h7 h8 hj hne
  obtain ⟨id, en, pe, ref, lines, void⟩ := j
  simp only at HS HNE HM H24
  have HB := Lib.hid (((Below.refl w.heap.size w).alloc (Nat.le_refl _) (.cells #[.int .i64 id, .int .i64 en, .int .i64 pe, .string ref, .slice a lines.length cap, .bool void] 77)).alloc (by simp) (.cells #[.int .i64 0, .int .i64 0, .int .i64 0, .string ⟨#[]⟩, .slice none 0 0, .bool false] 77))
  have HK := Lib.hid (blk_alloc (blk_new w (.cells #[.int .i64 id, .int .i64 en, .int .i64 pe, .string ref, .slice a lines.length cap, .bool void] 77)) (.cells #[.int .i64 0, .int .i64 0, .int .i64 0, .string ⟨#[]⟩, .slice none 0 0, .bool false] 77))
  have HZ := Lib.hid (by have := blk_new (w.alloc (.cells #[.int .i64 id, .int .i64 en, .int .i64 pe, .string ref, .slice a lines.length cap, .bool void] 77)) (.cells #[.int .i64 0, .int .i64 0, .int .i64 0, .string ⟨#[]⟩, .slice none 0 0, .bool false] 77); simpa using this : ((w.alloc (.cells #[.int .i64 id, .int .i64 en, .int .i64 pe, .string ref, .slice a lines.length cap, .bool void] 77)).alloc (.cells #[.int .i64 0, .int .i64 0, .int .i64 0, .string ⟨#[]⟩, .slice none 0 0, .bool false] 77)).heap[w.heap.size + 1]? = some (.cells #[.int .i64 0, .int .i64 0, .int .i64 0, .string ⟨#[]⟩, .slice none 0 0, .bool false] 77 (0, 0)))
  go_enter Tryz.func147, Tryz.ntmps147
  go_wp2_with fail
  refine (cloneL_any lines a cap _ (Sl.keep (fun k hk _ => HB.out.block k hk) HS.out) HNE.out HM.out H24.out).mono ?_
  rintro e w2 ⟨a2, cap2, rfl, hb, hown⟩
  have hJ2 := blk_below HK.out hb
  have hZ2 := blk_below HZ.out hb
  have HB2 := Lib.hid (belows_then HB.out (by simp; omega) hb)
  have HOWN := Lib.hid (hown.mono (show w.heap.size + 2 ≤ _ by simp))
  have hJc := blk_cells hJ2
  have hJf := blk_frz hJ2
  have hZc := blk_cells hZ2
  have hZf := blk_frz hZ2
  have HJ2 := Lib.hid hJ2
  have HZ2 := Lib.hid hZ2
  clear hown hb hJ2 hZ2
  go_wp2_with fail
  have hlt := HOWN.out.lt
  have hfin := blk_set (blk_set (blk_set (blk_set (blk_set (blk_set (blk_far HZ2.out (p := ⟨w.heap.size, 4, none⟩) (by simp) (.slice a2 lines.length cap2)) 0 (.int .i64 id)) 1 (.int .i64 en)) 2 (.int .i64 pe)) 3 (.string ref)) 4 (.slice a2 lines.length cap2)) 5 (.bool void)
  simp at hfin
  generalize hw4 : (World.setCell _ (⟨w.heap.size + 1, 5, none⟩ : Addr) _) = w4 at hfin ⊢
  have hb4 : Below w.heap.size w w4 := by
    rw [← hw4]
    iterate 7 (refine Below.setCell ?_ (by simp) _)
    exact HB2.out
  have hs4 : w2.heap.size ≤ w4.heap.size := by rw [← hw4]; simp
  have hk4 : ∀ k, (Value.slice a2 lines.length cap2).ownBlock = some k → w4.heap[k]? = w2.heap[k]? := by
    intro k hk
    have hk2 := hlt k hk
    rw [← hw4]
    iterate 7 (rw [Below.heap_setCell _ _ _ k (by simp; omega)])
  clear hw4
  refine bodyPost_ret (v := jnv ⟨id, en, pe, ref, lines, void⟩ a2 cap2) ?_ rfl ?_
  · refine results_cell_row (fn := Tryz.f147) (p := 2) (ty := 77) rfl _ _ (w.heap.size + 1) 77 #[.int .i64 id, .int .i64 en, .int .i64 pe, .string ref, .slice a2 lines.length cap2, .bool void] (0, 0) _ ?_ ?_ Tryz.underlying77 rfl (by kernel_rfl)
    · rfl
    · exact hfin
  · exact copy_end (w1 := w2) HJ.out (HOWN.out.mono (by omega)) hb4 hs4 hk4
end Go.Proofs.YtbgkladgeijgdaaGreat


/- A journal of a list, cell by cell; the document's Get, Taken. -/
set_option linter.unusedVariables false
set_option linter.unusedSimpArgs false
namespace Go.Proofs.YtbgkladgeijgdaaGreat
open Go.RowKit Go.Maps

theorem jn_at {w : World} {F : Nat → Prop} {a : Option Addr} {l : List Jn} (h : Sl tJn w F a l) (i : Nat) (hi : i < l.length) :
    ∃ ad la lc, a = some ad ∧ F ad.block ∧ ad.block < w.heap.size ∧ w.cell? (ad.add (i * 6)) = some (.int .i64 l[i].id) ∧ w.cell? ⟨(ad.add (i * 6)).block, (ad.add (i * 6)).off + 1, none⟩ = some (.int .i64 l[i].en) ∧
      w.cell? ⟨(ad.add (i * 6)).block, (ad.add (i * 6)).off + 2, none⟩ = some (.int .i64 l[i].pe) ∧ w.cell? ⟨(ad.add (i * 6)).block, (ad.add (i * 6)).off + 3, none⟩ = some (.string l[i].ref) ∧
      w.cell? ⟨(ad.add (i * 6)).block, (ad.add (i * 6)).off + 4, none⟩ = some (.slice la l[i].lines.length lc) ∧ w.cell? ⟨(ad.add (i * 6)).block, (ad.add (i * 6)).off + 5, none⟩ = some (.bool l[i].void) ∧ tJn.R w F (jcs l[i] la lc) l[i] := by
  obtain ⟨ad, ces, rfl, hf, hlt, hc, hr⟩ := h i l[i] (List.getElem?_eq_getElem hi)
  obtain ⟨la, lc, rfl, h1, h2, h3, h4, h5⟩ := jn_inv hr
  rw [tJn_n] at hc
  refine ⟨ad, la, lc, rfl, hf, hlt, ?_, ?_, ?_, ?_, ?_, ?_, hr⟩
  · have := hc 0 _ rfl
    simpa [Addr.add] using this
  all_goals
    first
    | (have := hc 1 _ rfl; rw [Addr.add] at this; simpa using this; done)
    | (have := hc 2 _ rfl; rw [Addr.add] at this; simpa using this; done)
    | (have := hc 3 _ rfl; rw [Addr.add] at this; simpa using this; done)
    | (have := hc 4 _ rfl; rw [Addr.add] at this; simpa using this; done)
    | (have := hc 5 _ rfl; rw [Addr.add] at this; simpa using this; done)

abbrev jn0 : Jn := ⟨0, 0, 0, ⟨#[]⟩, [], false⟩
def hasJ (l : List Jn) (id : Int) : Bool := l.any (fun j => j.id == id)
def GetPost (w : World) (F : Nat → Prop) (l : List Jn) (id : Int) (e : Ending) (w' : World) : Prop :=
  ∃ (x : Jn) (a : Option Addr) (cap : Nat), e = .returned (.tuple #[jnv x a cap, .bool (hasJ l id)]) ∧ Below w.heap.size w w' ∧ (hasJ l id = true → l.find? (fun j => j.id == id) = some x ∧ tJn.R w' F (jcs x a cap) x)

theorem find_first {α : Type} (p : α → Bool) (l : List α) (n : Nat) (hn : n < l.length) (h0 : (l.take n).any p = false) (h1 : p l[n] = true) : l.find? p = some l[n] := by
  rw [List.find?_eq_some_iff_getElem]
  refine ⟨h1, n, hn, rfl, fun j hj => ?_⟩
  rw [List.any_eq_false] at h0
  have := h0 l[j] (by rw [List.mem_take_iff_getElem]; exact ⟨j, by omega, rfl⟩)
  simpa using this

theorem results_row_tmp {P : Program} {fn : Func} {p u : Tmp} {ty : TypeId} (h : fn.results = #[.cell p ty, .tmp u]) (tmps : Array Value) (w : World) (g : Nat) (t : TypeId) (cs : Array Value) (fr : Nat × Nat) (d : TypeDesc)
    (hp : tmps.getD p undef = .pointer (some ⟨g, 0, none⟩)) (hg : w.heap[g]? = some (.cells cs t fr))
    (hu : P.underlying ty = some d) (hd : (match d with | .struct _ | .array _ _ => true | _ => false) = true) (hi : (P.info? ty).map (·.size) = some cs.size) :
    (results fn tmps).run P w = .ok (.tuple #[.agg cs, tmps.getD u undef]) w := by
  rw [results_cell_tmp h, hp]
  simp [asAddr, run_loadVar_row w g t ty cs fr d hg hu hd hi, Result.andThen]
theorem six (w : World) (b : Nat) {t : TypeId} {x0 x1 x2 x3 x4 x5 : Value} (h : w.heap[b]? = some (.cells #[x0, x1, x2, x3, x4, x5] t (0, 0))) (v0 v1 v2 v3 v4 v5 : Value) :
    ∃ w4, ((((((w.setCell ⟨b, 0, none⟩ v0).setCell ⟨b, 1, none⟩ v1).setCell ⟨b, 2, none⟩ v2).setCell ⟨b, 3, none⟩ v3).setCell ⟨b, 4, none⟩ v4).setCell ⟨b, 5, none⟩ v5) = w4 ∧ w4.heap[b]? = some (.cells #[v0, v1, v2, v3, v4, v5] t (0, 0)) ∧ w4.heap.size = w.heap.size ∧
      (∀ k, k ≠ b → w4.heap[k]? = w.heap[k]?) ∧ (∀ B w0, Below B w0 w → B ≤ b → Below B w0 w4) := by
  refine ⟨_, rfl, ?_, by simp, fun k hk => ?_, fun B w0 hb hB => ?_⟩
  · have := blk_set (blk_set (blk_set (blk_set (blk_set (blk_set h 0 v0) 1 v1) 2 v2) 3 v3) 4 v4) 5 v5
    simpa using this
  · iterate 6 (rw [Below.heap_setCell _ _ _ k hk])
  · iterate 6 (refine Below.setCell ?_ hB _)
    exact hb

set_option maxHeartbeats 2000000 in
set_option maxRecDepth 100000 in
theorem rget_any (l : List Jn) (a : Option Addr) (cap : Nat) (id : Int) (w : World) {F : Nat → Prop} (hs : Sl tJn w F a l) (hl : l.length ≤ maxLen) :
    Calls Tryz.prog 118 #[.slice a l.length cap, .int .i64 id] w (GetPost w F l id) := by
  have HS := Lib.hid hs
  have hl' : l.length ≤ 9223372036854775807 := by unfold maxLen at hl; omega
  clear hs hl
  have HB := Lib.hid ((Below.refl w.heap.size w).alloc (Nat.le_refl _) (.cells #[.int .i64 0, .int .i64 0, .int .i64 0, .string ⟨#[]⟩, .slice none 0 0, .bool false] 77))
  have HZ := Lib.hid (blk_new w (.cells #[.int .i64 0, .int .i64 0, .int .i64 0, .string ⟨#[]⟩, .slice none 0 0, .bool false] 77))
  go_enter Tryz.func118, Tryz.ntmps118
  go_wp2_with fail
  go_loopw [6] (fun vi wr => ∃ n : Nat, n ≤ l.length ∧ vi = .int .i64 n ∧ Hid ((l.take n).any (fun j => j.id == id) = false) ∧ wr = w.alloc (.cells #[.int .i64 0, .int .i64 0, .int .i64 0, .string ⟨#[]⟩, .slice none 0 0, .bool false] 77)) (fun vi _ => l.length - (intOf vi).toNat)
  case atStart => exact ⟨0, Nat.zero_le _, rfl, rfl, rfl⟩
  case round =>
    obtain ⟨n, hn, rfl, hany, hwr⟩ := hrel
    have HB1 : Hid (Below w.heap.size w wr) := by rw [hwr]; exact HB
    have HZ1 : Hid (wr.heap[w.heap.size]? = some (.cells #[.int .i64 0, .int .i64 0, .int .i64 0, .string ⟨#[]⟩, .slice none 0 0, .bool false] 77 (0, 0))) := by rw [hwr]; exact HZ
    have HWR := Lib.hid hwr
    clear hwr
    have hz := blk_cells HZ1.out
    have hzf := blk_frz HZ1.out
    have hzl := blk_lt HZ1.out
    by_cases hlt : n < l.length
    · obtain ⟨ad, la, lc, rfl, _, hadl, hc0, hc1, hc2, hc3, hc4, hc5, hr⟩ := jn_at (HS.out.keep fun k hk _ => HB1.out.block k hk) n hlt
      have HR := Lib.hid hr
      clear hr
      cases hv : (l[n].id == id)
      · have hnext := (any_take_succ (fun j : Jn => j.id == id) l n hlt).trans (by rw [hany.out, hv]; try rfl)
        have HN := Lib.hid hnext
        clear hnext
        go_wp2_with fail
        go_roundw
        case rel => exact ⟨n + 1, by omega, by go_num, HN.out, HWR.out⟩
        case measure => simp [intOf]; omega
      · have hhas : hasJ l id = true := any_at _ l n hlt hv
        have hfind := find_first (fun j : Jn => j.id == id) l n hlt hany.out hv
        have HF := Lib.hid (And.intro hhas hfind)
        clear hhas hfind
        go_wp2_with fail
        obtain ⟨w4, hw4, h4, hs4, hk4, hb4⟩ := six wr w.heap.size HZ1.out (.int .i64 l[n].id) (.int .i64 l[n].en) (.int .i64 l[n].pe) (.string l[n].ref) (.slice la l[n].lines.length lc) (.bool l[n].void)
        rw [hw4]
        clear hw4
        refine bodyPost_ret (v := .tuple #[jnv l[n] la lc, .bool true]) (results_row_tmp (fn := Tryz.f118) (p := 4) (ty := 77) rfl _ _ w.heap.size 77 _ (0, 0) _ rfl h4 Tryz.underlying77 rfl (by kernel_rfl)) rfl ?_
        have hB4 := hb4 _ _ HB1.out (Nat.le_refl _)
        refine ⟨l[n], la, lc, by rw [HF.out.1], hB4, fun _ => ⟨HF.out.2, ?_⟩⟩
        obtain ⟨ad0, la0, lc0, he, _, hlt0, _, _, _, _, hc40, _, hr0⟩ := jn_at HS.out n hlt
        injection he with he
        subst he
        have hcc := HB1.out.cell (p := ⟨(ad.add (n * 6)).block, (ad.add (n * 6)).off + 4, none⟩) (by show (ad.add (n * 6)).block < _; rw [add_block]; exact hlt0)
        rw [hcc, hc40] at hc4
        simp at hc4
        obtain ⟨rfl, rfl⟩ := hc4
        exact tJn.keep (fun k hk _ => hB4.block k hk) hr0
    · have hno : hasJ l id = false := by
        have := hany.out
        rwa [take_all hn hlt] at this
      have HNO := Lib.hid hno
      clear hno hany
      go_wp2_with fail
      obtain ⟨w4, hw4, h4, hs4, hk4, hb4⟩ := six wr w.heap.size HZ1.out (.int .i64 0) (.int .i64 0) (.int .i64 0) (.string ⟨#[]⟩) (.slice none 0 0) (.bool false)
      rw [hw4]
      clear hw4
      refine bodyPost_ret (v := .tuple #[jnv jn0 none 0, .bool false]) (results_row_tmp (fn := Tryz.f118) (p := 4) (ty := 77) rfl _ _ w.heap.size 77 _ (0, 0) _ rfl h4 Tryz.underlying77 rfl (by kernel_rfl)) rfl ?_
      exact ⟨jn0, none, 0, by rw [HNO.out], hb4 _ _ HB1.out (Nat.le_refl _), fun h => by rw [HNO.out] at h; cases h⟩
end Go.Proofs.YtbgkladgeijgdaaGreat
