/- slices.Clone at lines, entry.Copy. -/
import Derived.Test.YtgggpaacagbmcaaGreatX04GroupInner
import Derived.Lib.BufferMore
import Derived.Laws.ResultCell
set_option linter.unusedVariables false
set_option linter.unusedSimpArgs false
namespace Go.Proofs.YtgggpaacagbmcaaGreat
open Go.RowKit Go.Maps

def ClonePost (w : World) (l : List Ln) (e : Ending) (w' : World) : Prop :=
  ∃ a cap, e = .returned (.slice a l.length cap) ∧ Below w.heap.size w w' ∧ OwnL tLn w' w.heap.size (.slice a l.length cap) l
theorem ownL_empty {P : Program} {e : TypeId} {α : Type} (T : Ty P e α) (w : World) : OwnL T (w.alloc (.cells #[] e)) w.heap.size (.slice (some ⟨w.heap.size, 0, none⟩) 0 0) [] :=
  ⟨[], ⟨by simp, .inr ⟨w.heap.size, 0, #[], rfl, Nat.le_refl _, blk_new _ _, Nat.le_refl _, Nat.zero_le _, by simp, by simp⟩⟩, rfl, by simp, by simp⟩

set_option maxHeartbeats 1000000 in
set_option maxRecDepth 100000 in
theorem cloneL_any (l : List Ln) (a : Option Addr) (cap : Nat) (w : World) {F : Nat → Prop} (hs : Sl tLn w F a l) (hne : l ≠ []) (hl : l.length ≤ maxLen) (h24 : l.length * 24 ≤ 140737488351232) :
    Calls Tryz.prog 147 #[.slice a l.length cap] w (ClonePost w l) := by
  obtain ⟨ad, rfl⟩ := sl_some hs hne
  have HS := Lib.hid hs
  have h63 : ([] : List Ln).length + l.length ≤ maxLen := by simp only [List.length_nil]; omega
  have hbytes : (([] : List Ln).length + l.length) * 24 ≤ 140737488355328 := by simp only [List.length_nil]; omega
  clear hs hne hl h24
  obtain ⟨i0, hi, hz0, hz1, hz2⟩ := info_parts infoL
  have HB := Lib.hid ((Below.refl w.heap.size w).alloc (Nat.le_refl _) (.cells #[] 74))
  have hnil := fun W => Lib.run_eql_slice_some_nil (P := Tryz.prog) W (t := 67) ad l.length cap Tryz.underlying67
  go_enter Tryz.func147, Tryz.ntmps147
  go_wp2_with (first
    | (at_builtin; refine wp_app (T := tLn) rfl _ _ 67 rfl i0 (.agg #[.int .i64 0, .int .i64 0, .int .i64 0]) 24 Tryz.underlying67 hi hz0 hz1 hz2 rfl (by decide) ln_one w.heap.size (.slice (some ⟨w.heap.size, 0, none⟩) 0 0) [] rfl (ownL_empty tLn w) ad cap l rfl (sl_app HS.out HB.out (fun k e => by simp [Value.ownBlock] at e; omega)) h63 hbytes (by simp) ?_; intro v' w2 hown hg hnil hat
       rw [List.nil_append] at hown
       obtain ⟨a2, cap2, rfl, _⟩ := hown.slice
       have HB2 := Lib.hid (HB.out.grown hg (by simp) (fun k e => by simp [Value.ownBlock] at e; omega))
       have HOWN := Lib.hid hown
       clear hown hg hnil hat))
  go_ret
  exact ⟨_, _, rfl, HB2.out, HOWN.out⟩

set_option maxHeartbeats 1000000 in
set_option maxRecDepth 100000 in
theorem ecopy_any (j : Jn) (a : Option Addr) (cap : Nat) (w : World) {F : Nat → Prop} (hj : tJn.R w F (jcs j a cap) j) (hne : j.lines ≠ []) :
    Calls Tryz.prog 121 #[jnv j a cap] w (CopyPost w j) := by
  obtain ⟨h1, h2, h3, h4, h5, h6, h7, h8⟩ := jcs_inv hj
  have HJ := Lib.hid hj
  have HS := Lib.hid h5
  rw [line_bytes] at h8
  have HNE := Lib.hid hne
  have HM := Lib.hid (show j.lines.length ≤ maxLen by omega)
  have H24 := Lib.hid h8
  clear h1 h2 h3 h4 h5 h6 h7 h8 hj hne
  obtain ⟨id, en, pe, ref, lines, void⟩ := j
  simp only at HS HNE HM H24
  have HB := Lib.hid (((Below.refl w.heap.size w).alloc (Nat.le_refl _) (.cells #[.int .i64 id, .int .i64 en, .int .i64 pe, .string ref, .slice a lines.length cap, .bool void] 81)).alloc (by simp) (.cells #[.int .i64 0, .int .i64 0, .int .i64 0, .string ⟨#[]⟩, .slice none 0 0, .bool false] 81))
  have HK := Lib.hid (blk_alloc (blk_new w (.cells #[.int .i64 id, .int .i64 en, .int .i64 pe, .string ref, .slice a lines.length cap, .bool void] 81)) (.cells #[.int .i64 0, .int .i64 0, .int .i64 0, .string ⟨#[]⟩, .slice none 0 0, .bool false] 81))
  have HZ := Lib.hid (by have := blk_new (w.alloc (.cells #[.int .i64 id, .int .i64 en, .int .i64 pe, .string ref, .slice a lines.length cap, .bool void] 81)) (.cells #[.int .i64 0, .int .i64 0, .int .i64 0, .string ⟨#[]⟩, .slice none 0 0, .bool false] 81); simpa using this : ((w.alloc (.cells #[.int .i64 id, .int .i64 en, .int .i64 pe, .string ref, .slice a lines.length cap, .bool void] 81)).alloc (.cells #[.int .i64 0, .int .i64 0, .int .i64 0, .string ⟨#[]⟩, .slice none 0 0, .bool false] 81)).heap[w.heap.size + 1]? = some (.cells #[.int .i64 0, .int .i64 0, .int .i64 0, .string ⟨#[]⟩, .slice none 0 0, .bool false] 81 (0, 0)))
  go_enter Tryz.func121, Tryz.ntmps121
  go_wp2_with fail
  refine (cloneL_any lines a cap _ (Sl.keep (fun k hk _ => HB.out.block k hk) HS.out) HNE.out HM.out H24.out).mono ?_
  rintro e w2 ⟨a2, cap2, rfl, hb, hown⟩
  have hJ2 := blk_below HK.out hb
  have hZ2 := blk_below HZ.out hb
  have HB2 := Lib.hid (belows_then HB.out (by simp; omega) hb)
  have HOWN := Lib.hid (hown.mono (show w.heap.size + 2 ≤ _ by simp))
  have hJc := blk_cells hJ2
  have hJf := blk_frz hJ2
  have hZc := blk_cells hZ2
  have hZf := blk_frz hZ2
  have HJ2 := Lib.hid hJ2
  have HZ2 := Lib.hid hZ2
  clear hown hb hJ2 hZ2
  go_wp2_with fail
  have hlt := HOWN.out.lt
  have hfin := blk_set (blk_set (blk_set (blk_set (blk_set (blk_set (blk_far HZ2.out (p := ⟨w.heap.size, 4, none⟩) (by simp) (.slice a2 lines.length cap2)) 0 (.int .i64 id)) 1 (.int .i64 en)) 2 (.int .i64 pe)) 3 (.string ref)) 4 (.slice a2 lines.length cap2)) 5 (.bool void)
  simp at hfin
  generalize hw4 : (World.setCell _ (⟨w.heap.size + 1, 5, none⟩ : Addr) _) = w4 at hfin ⊢
  have hb4 : Below w.heap.size w w4 := by
    rw [← hw4]
    iterate 7 (refine Below.setCell ?_ (by simp) _)
    exact HB2.out
  have hs4 : w2.heap.size ≤ w4.heap.size := by rw [← hw4]; simp
  have hk4 : ∀ k, (Value.slice a2 lines.length cap2).ownBlock = some k → w4.heap[k]? = w2.heap[k]? := by
    intro k hk
    have hk2 := hlt k hk
    rw [← hw4]
    iterate 7 (rw [Below.heap_setCell _ _ _ k (by simp; omega)])
  clear hw4
  refine bodyPost_ret (v := jnv ⟨id, en, pe, ref, lines, void⟩ a2 cap2) ?_ rfl ?_
  · refine results_cell_row (fn := Tryz.f121) (p := 2) (ty := 81) rfl _ _ (w.heap.size + 1) 81 #[.int .i64 id, .int .i64 en, .int .i64 pe, .string ref, .slice a2 lines.length cap2, .bool void] (0, 0) _ ?_ ?_ Tryz.underlying81 rfl (by kernel_rfl)
    · rfl
    · exact hfin
  · exact copy_end (w1 := w2) HJ.out (HOWN.out.mono (by omega)) hb4 hs4 hk4
end Go.Proofs.YtgggpaacagbmcaaGreat


/- A journal of a list, cell by cell; the document's Get, Taken. -/
set_option linter.unusedVariables false
set_option linter.unusedSimpArgs false
namespace Go.Proofs.YtgggpaacagbmcaaGreat
open Go.RowKit Go.Maps

theorem jn_at {w : World} {F : Nat → Prop} {a : Option Addr} {l : List Jn} (h : Sl tJn w F a l) (i : Nat) (hi : i < l.length) :
    ∃ ad la lc, a = some ad ∧ F ad.block ∧ ad.block < w.heap.size ∧ w.cell? (ad.add (i * 6)) = some (.int .i64 l[i].id) ∧ w.cell? ⟨(ad.add (i * 6)).block, (ad.add (i * 6)).off + 1, none⟩ = some (.int .i64 l[i].en) ∧
      w.cell? ⟨(ad.add (i * 6)).block, (ad.add (i * 6)).off + 2, none⟩ = some (.int .i64 l[i].pe) ∧ w.cell? ⟨(ad.add (i * 6)).block, (ad.add (i * 6)).off + 3, none⟩ = some (.string l[i].ref) ∧
      w.cell? ⟨(ad.add (i * 6)).block, (ad.add (i * 6)).off + 4, none⟩ = some (.slice la l[i].lines.length lc) ∧ w.cell? ⟨(ad.add (i * 6)).block, (ad.add (i * 6)).off + 5, none⟩ = some (.bool l[i].void) ∧ tJn.R w F (jcs l[i] la lc) l[i] := by
  obtain ⟨ad, ces, rfl, hf, hlt, hc, hr⟩ := h i l[i] (List.getElem?_eq_getElem hi)
  obtain ⟨la, lc, rfl, h1, h2, h3, h4, h5⟩ := jn_inv hr
  rw [tJn_n] at hc
  refine ⟨ad, la, lc, rfl, hf, hlt, ?_, ?_, ?_, ?_, ?_, ?_, hr⟩
  · have := hc 0 _ rfl
    simpa [Addr.add] using this
  all_goals
    first
    | (have := hc 1 _ rfl; rw [Addr.add] at this; simpa using this; done)
    | (have := hc 2 _ rfl; rw [Addr.add] at this; simpa using this; done)
    | (have := hc 3 _ rfl; rw [Addr.add] at this; simpa using this; done)
    | (have := hc 4 _ rfl; rw [Addr.add] at this; simpa using this; done)
    | (have := hc 5 _ rfl; rw [Addr.add] at this; simpa using this; done)

abbrev jn0 : Jn := ⟨0, 0, 0, ⟨#[]⟩, [], false⟩
def hasJ (l : List Jn) (id : Int) : Bool := l.any (fun j => j.id == id)
def GetPost (w : World) (F : Nat → Prop) (l : List Jn) (id : Int) (e : Ending) (w' : World) : Prop :=
  ∃ (x : Jn) (a : Option Addr) (cap : Nat), e = .returned (.tuple #[jnv x a cap, .bool (hasJ l id)]) ∧ Below w.heap.size w w' ∧ (hasJ l id = true → l.find? (fun j => j.id == id) = some x ∧ tJn.R w' F (jcs x a cap) x)

theorem find_first {α : Type} (p : α → Bool) (l : List α) (n : Nat) (hn : n < l.length) (h0 : (l.take n).any p = false) (h1 : p l[n] = true) : l.find? p = some l[n] := by
  rw [List.find?_eq_some_iff_getElem]
  refine ⟨h1, n, hn, rfl, fun j hj => ?_⟩
  rw [List.any_eq_false] at h0
  have := h0 l[j] (by rw [List.mem_take_iff_getElem]; exact ⟨j, by omega, rfl⟩)
  simpa using this

theorem results_row_tmp {P : Program} {fn : Func} {p u : Tmp} {ty : TypeId} (h : fn.results = #[.cell p ty, .tmp u]) (tmps : Array Value) (w : World) (g : Nat) (t : TypeId) (cs : Array Value) (fr : Nat × Nat) (d : TypeDesc)
    (hp : tmps.getD p undef = .pointer (some ⟨g, 0, none⟩)) (hg : w.heap[g]? = some (.cells cs t fr))
    (hu : P.underlying ty = some d) (hd : (match d with | .struct _ | .array _ _ => true | _ => false) = true) (hi : (P.info? ty).map (·.size) = some cs.size) :
    (results fn tmps).run P w = .ok (.tuple #[.agg cs, tmps.getD u undef]) w := by
  rw [results_cell_tmp h, hp]
  simp [asAddr, run_loadVar_row w g t ty cs fr d hg hu hd hi, Result.andThen]
theorem six (w : World) (b : Nat) {t : TypeId} {x0 x1 x2 x3 x4 x5 : Value} (h : w.heap[b]? = some (.cells #[x0, x1, x2, x3, x4, x5] t (0, 0))) (v0 v1 v2 v3 v4 v5 : Value) :
    ∃ w4, ((((((w.setCell ⟨b, 0, none⟩ v0).setCell ⟨b, 1, none⟩ v1).setCell ⟨b, 2, none⟩ v2).setCell ⟨b, 3, none⟩ v3).setCell ⟨b, 4, none⟩ v4).setCell ⟨b, 5, none⟩ v5) = w4 ∧ w4.heap[b]? = some (.cells #[v0, v1, v2, v3, v4, v5] t (0, 0)) ∧ w4.heap.size = w.heap.size ∧
      (∀ k, k ≠ b → w4.heap[k]? = w.heap[k]?) ∧ (∀ B w0, Below B w0 w → B ≤ b → Below B w0 w4) := by
  refine ⟨_, rfl, ?_, by simp, fun k hk => ?_, fun B w0 hb hB => ?_⟩
  · have := blk_set (blk_set (blk_set (blk_set (blk_set (blk_set h 0 v0) 1 v1) 2 v2) 3 v3) 4 v4) 5 v5
    simpa using this
  · iterate 6 (rw [Below.heap_setCell _ _ _ k hk])
  · iterate 6 (refine Below.setCell ?_ hB _)
    exact hb

set_option maxHeartbeats 2000000 in
set_option maxRecDepth 100000 in
theorem rget_any (l : List Jn) (a : Option Addr) (cap : Nat) (id : Int) (w : World) {F : Nat → Prop} (hs : Sl tJn w F a l) (hl : l.length ≤ maxLen) :
    Calls Tryz.prog 128 #[.slice a l.length cap, .int .i64 id] w (GetPost w F l id) := by
  have HS := Lib.hid hs
  have hl' : l.length ≤ 9223372036854775807 := by unfold maxLen at hl; omega
  clear hs hl
  have HB := Lib.hid ((Below.refl w.heap.size w).alloc (Nat.le_refl _) (.cells #[.int .i64 0, .int .i64 0, .int .i64 0, .string ⟨#[]⟩, .slice none 0 0, .bool false] 81))
  have HZ := Lib.hid (blk_new w (.cells #[.int .i64 0, .int .i64 0, .int .i64 0, .string ⟨#[]⟩, .slice none 0 0, .bool false] 81))
  go_enter Tryz.func128, Tryz.ntmps128
  go_wp2_with fail
  go_loopw [6] (fun vi wr => ∃ n : Nat, n ≤ l.length ∧ vi = .int .i64 n ∧ Hid ((l.take n).any (fun j => j.id == id) = false) ∧ wr = w.alloc (.cells #[.int .i64 0, .int .i64 0, .int .i64 0, .string ⟨#[]⟩, .slice none 0 0, .bool false] 81)) (fun vi _ => l.length - (Go.RowKit.intOf vi).toNat)
  case atStart => exact ⟨0, Nat.zero_le _, rfl, rfl, rfl⟩
  case round =>
    obtain ⟨n, hn, rfl, hany, hwr⟩ := hrel
    have HB1 : Hid (Below w.heap.size w wr) := by rw [hwr]; exact HB
    have HZ1 : Hid (wr.heap[w.heap.size]? = some (.cells #[.int .i64 0, .int .i64 0, .int .i64 0, .string ⟨#[]⟩, .slice none 0 0, .bool false] 81 (0, 0))) := by rw [hwr]; exact HZ
    have HWR := Lib.hid hwr
    clear hwr
    have hz := blk_cells HZ1.out
    have hzf := blk_frz HZ1.out
    have hzl := blk_lt HZ1.out
    by_cases hlt : n < l.length
    · obtain ⟨ad, la, lc, rfl, _, hadl, hc0, hc1, hc2, hc3, hc4, hc5, hr⟩ := jn_at (HS.out.keep fun k hk _ => HB1.out.block k hk) n hlt
      have HR := Lib.hid hr
      clear hr
      cases hv : (l[n].id == id)
      · have hnext := (any_take_succ (fun j : Jn => j.id == id) l n hlt).trans (by rw [hany.out, hv]; try rfl)
        have HN := Lib.hid hnext
        clear hnext
        go_wp2_with fail
        go_roundw
        case rel => exact ⟨n + 1, by omega, by go_num, HN.out, HWR.out⟩
        case measure => simp [Go.RowKit.intOf]; omega
      · have hhas : hasJ l id = true := any_at _ l n hlt hv
        have hfind := find_first (fun j : Jn => j.id == id) l n hlt hany.out hv
        have HF := Lib.hid (And.intro hhas hfind)
        clear hhas hfind
        go_wp2_with fail
        obtain ⟨w4, hw4, h4, hs4, hk4, hb4⟩ := six wr w.heap.size HZ1.out (.int .i64 l[n].id) (.int .i64 l[n].en) (.int .i64 l[n].pe) (.string l[n].ref) (.slice la l[n].lines.length lc) (.bool l[n].void)
        rw [hw4]
        clear hw4
        refine bodyPost_ret (v := .tuple #[jnv l[n] la lc, .bool true]) (results_row_tmp (fn := Tryz.f128) (p := 4) (ty := 81) rfl _ _ w.heap.size 81 _ (0, 0) _ rfl h4 Tryz.underlying81 rfl (by kernel_rfl)) rfl ?_
        have hB4 := hb4 _ _ HB1.out (Nat.le_refl _)
        refine ⟨l[n], la, lc, by rw [HF.out.1], hB4, fun _ => ⟨HF.out.2, ?_⟩⟩
        obtain ⟨ad0, la0, lc0, he, _, hlt0, _, _, _, _, hc40, _, hr0⟩ := jn_at HS.out n hlt
        injection he with he
        subst he
        have hcc := HB1.out.cell (p := ⟨(ad.add (n * 6)).block, (ad.add (n * 6)).off + 4, none⟩) (by show (ad.add (n * 6)).block < _; rw [add_block]; exact hlt0)
        rw [hcc, hc40] at hc4
        simp at hc4
        obtain ⟨rfl, rfl⟩ := hc4
        exact tJn.keep (fun k hk _ => hB4.block k hk) hr0
    · have hno : hasJ l id = false := by
        have := hany.out
        rwa [take_all hn hlt] at this
      have HNO := Lib.hid hno
      clear hno hany
      go_wp2_with fail
      obtain ⟨w4, hw4, h4, hs4, hk4, hb4⟩ := six wr w.heap.size HZ1.out (.int .i64 0) (.int .i64 0) (.int .i64 0) (.string ⟨#[]⟩) (.slice none 0 0) (.bool false)
      rw [hw4]
      clear hw4
      refine bodyPost_ret (v := .tuple #[jnv jn0 none 0, .bool false]) (results_row_tmp (fn := Tryz.f128) (p := 4) (ty := 81) rfl _ _ w.heap.size 81 _ (0, 0) _ rfl h4 Tryz.underlying81 rfl (by kernel_rfl)) rfl ?_
      exact ⟨jn0, none, 0, by rw [HNO.out], hb4 _ _ HB1.out (Nat.le_refl _), fun h => by rw [HNO.out] at h; cases h⟩
end Go.Proofs.YtgggpaacagbmcaaGreat


/- The document's Taken. -/
set_option linter.unusedVariables false
set_option linter.unusedSimpArgs false
namespace Go.Proofs.YtgggpaacagbmcaaGreat
open Go.RowKit Go.Maps

def clash (j x : Jn) : Bool := x.id != j.id && (!x.void && (x.ref.toList == j.ref.toList && x.en == j.en))
def takenJ (l : List Jn) (j : Jn) : Bool := !j.ref.toList.isEmpty && (!j.void && l.any (clash j))
theorem clash_cases {j x : Jn} {b : Bool} (h : clash j x = b) : (b = false ∧ ((x.id != j.id) = false ∨ (x.id != j.id) = true ∧ (x.void = true ∨ x.void = false ∧ ((x.ref.toList == j.ref.toList) = false ∨ (x.ref.toList == j.ref.toList) = true ∧ (x.en == j.en) = false)))) ∨
    (b = true ∧ (x.id != j.id) = true ∧ x.void = false ∧ (x.ref.toList == j.ref.toList) = true ∧ (x.en == j.en) = true) := by
  subst h
  unfold clash
  cases x.id != j.id <;> cases x.void <;> cases x.ref.toList == j.ref.toList <;> cases x.en == j.en <;> simp

set_option maxHeartbeats 4000000 in
set_option maxRecDepth 100000 in
theorem rtaken_any (l : List Jn) (a : Option Addr) (cap : Nat) (j : Jn) (ja : Option Addr) (jc : Nat) (w : World) {F : Nat → Prop} (hs : Sl tJn w F a l) (hl : l.length ≤ maxLen) :
    Calls Tryz.prog 129 #[.slice a l.length cap, jnv j ja jc] w fun e w' => e = .returned (.bool (takenJ l j)) ∧ Below w.heap.size w w' := by
  have HS := Lib.hid hs
  have hl' : l.length ≤ 9223372036854775807 := by unfold maxLen at hl; omega
  clear hs hl
  obtain ⟨id, en, pe, ref, lines, void⟩ := j
  generalize htk : takenJ l ⟨id, en, pe, ref, lines, void⟩ = res
  have HT := Lib.hid htk
  clear htk
  have HB := Lib.hid ((Below.refl w.heap.size w).alloc (Nat.le_refl _) (.cells #[.int .i64 id, .int .i64 en, .int .i64 pe, .string ref, .slice ja lines.length jc, .bool void] 81))
  have HZ := Lib.hid (blk_new w (.cells #[.int .i64 id, .int .i64 en, .int .i64 pe, .string ref, .slice ja lines.length jc, .bool void] 81))
  have hact : (ref.toList.isEmpty = true ∨ ref.toList.isEmpty = false ∧ (void = true ∨ void = false)) := by
    cases ref.toList.isEmpty <;> cases void <;> simp
  go_enter Tryz.func129, Tryz.ntmps129
  go_wp2_with fail
  go_loopw [5] (fun vi wr => ∃ n : Nat, n ≤ l.length ∧ vi = .int .i64 n ∧ Hid ((l.take n).any (clash ⟨id, en, pe, ref, lines, void⟩) = false) ∧ Below w.heap.size w wr ∧ wr.heap[w.heap.size]? = some (.cells #[.int .i64 id, .int .i64 en, .int .i64 pe, .string ref, .slice ja lines.length jc, .bool void] 81 (0, 0))) (fun vi _ => l.length - (Go.RowKit.intOf vi).toNat)
  case atStart => exact ⟨0, Nat.zero_le _, rfl, rfl, HB.out, HZ.out⟩
  case round =>
    obtain ⟨n, hn, rfl, hany, hb1, hz1⟩ := hrel
    have HB1 := Lib.hid hb1
    have HZ1 := Lib.hid hz1
    clear hb1 hz1
    have hz := blk_cells HZ1.out
    have hzl := blk_lt HZ1.out
    by_cases hlt : n < l.length
    · rcases hact with h1 | ⟨h1, rfl | rfl⟩
      · have hr : res = false := by rw [← HT.out]; simp only [takenJ, h1, Bool.not_true, Bool.false_and]
        have HR := Lib.hid hr
        clear hr
        go_wp2_with fail
        go_ret
        rw [HR.out]
        exact ⟨rfl, HB1.out⟩
      · have hr : res = false := by rw [← HT.out]; simp [takenJ]
        have HR := Lib.hid hr
        clear hr
        go_wp2_with fail
        go_ret
        rw [HR.out]
        exact ⟨rfl, HB1.out⟩
      · obtain ⟨ad, la, lc, rfl, _, hadl, hc0, hc1, hc2, hc3, hc4, hc5, hr⟩ := jn_at (HS.out.keep fun k hk _ => HB1.out.block k hk) n hlt
        clear hr
        cases hv : clash ⟨id, en, pe, ref, lines, false⟩ l[n]
        · have hnext := (any_take_succ (clash ⟨id, en, pe, ref, lines, false⟩) l n hlt).trans (by rw [hany.out, hv]; try rfl)
          have HN := Lib.hid hnext
          have hcl := clash_cases hv
          simp only [true_and, Bool.false_eq_true, false_and, or_false] at hcl
          clear hnext hv
          generalize hvoid : l[n].void = xv at hc5 hcl
          clear hvoid
          rcases hcl with h2 | ⟨h2, rfl | ⟨rfl, h4 | ⟨h4, h5⟩⟩⟩
          all_goals
            go_wp2_with fail
            go_quiet (fail)
            go_wp2_with fail
            go_roundw
            case rel => exact ⟨n + 1, by omega, by go_num, HN.out, below_drewN HB1.out _, blk_drew HZ1.out _⟩
            case measure => simp [Go.RowKit.intOf]; omega
        · have hr : res = true := by
            rw [← HT.out]
            simp only [takenJ, h1, Bool.not_false, Bool.true_and]
            exact any_at _ l n hlt hv
          have HR := Lib.hid hr
          have hcl := clash_cases hv
          simp only [Bool.true_eq_false, false_and, true_and, false_or] at hcl
          clear hr hv
          obtain ⟨h2, h3, h4, h5⟩ := hcl
          rw [h3] at hc5
          go_wp2_with fail
          go_quiet (fail)
          go_wp2_with fail
          go_ret
          rw [HR.out]
          exact ⟨rfl, below_drewN HB1.out _⟩
    · have hno : l.any (clash ⟨id, en, pe, ref, lines, void⟩) = false := by
        have := hany.out
        rwa [take_all hn hlt] at this
      have hr : res = false := by rw [← HT.out]; simp only [takenJ, hno, Bool.and_false]
      have HR := Lib.hid hr
      clear hr hno
      go_wp2_with fail
      go_ret
      rw [HR.out]
      exact ⟨rfl, HB1.out⟩
end Go.Proofs.YtgggpaacagbmcaaGreat


/- The document's Post. -/
set_option linter.unusedVariables false
set_option linter.unusedSimpArgs false
namespace Go.Proofs.YtgggpaacagbmcaaGreat
open Go.RowKit Go.Maps

def postJ (l : List Jn) (j : Jn) : Int := if chk j != 0 then chk j else if hasJ l j.id then 7 else if takenJ l j then 8 else if decide (200 ≤ (l.length : Int)) then 13 else 0
theorem post_cases (l : List Jn) (j : Jn) : (chk j != 0) = true ∧ postJ l j = chk j ∨ (chk j != 0) = false ∧ (hasJ l j.id = true ∧ postJ l j = 7 ∨ hasJ l j.id = false ∧ (takenJ l j = true ∧ postJ l j = 8 ∨ takenJ l j = false ∧ (200 ≤ (l.length : Int) ∧ postJ l j = 13 ∨ (l.length : Int) < 200 ∧ postJ l j = 0))) := by
  unfold postJ
  cases h1 : chk j != 0
  · cases h2 : hasJ l j.id
    · cases h3 : takenJ l j
      · by_cases h4 : 200 ≤ (l.length : Int)
        · simp [h4]
        · simp [h4]; omega
      · simp
    · simp
  · simp

theorem rtaken_is (l : List Jn) (a : Option Addr) (cap : Nat) (j : Jn) (ja : Option Addr) (jc : Nat) (w : World) {F : Nat → Prop} (hs : Sl tJn w F a l) (hl : l.length ≤ maxLen) {b : Bool} (h : takenJ l j = b) :
    Calls Tryz.prog 129 #[.slice a l.length cap, jnv j ja jc] w fun e w' => e = .returned (.bool b) ∧ Below w.heap.size w w' := by
  have := rtaken_any l a cap j ja jc w hs hl
  rwa [h] at this

set_option maxHeartbeats 4000000 in
set_option maxRecDepth 100000 in
theorem rpost_any (l : List Jn) (a : Option Addr) (cap : Nat) (j : Jn) (ja : Option Addr) (jc : Nat) (w : World) {F G : Nat → Prop} (hs : Sl tJn w F a l) (hl : l.length ≤ maxLen) (hj : Sl tLn w G ja j.lines) :
    Calls Tryz.prog 85 #[.slice a l.length cap, jnv j ja jc] w fun e w' => e = .returned (.int .i64 (postJ l j)) ∧ Below w.heap.size w w' := by
  have HS := Lib.hid hs
  have HL := Lib.hid hl
  have HJ := Lib.hid hj
  have HC := Lib.hid (post_cases l j)
  clear hs hl hj
  obtain ⟨id, en, pe, ref, lines, void⟩ := j
  generalize hp : postJ l ⟨id, en, pe, ref, lines, void⟩ = res at HC
  clear hp
  have HB := Lib.hid ((Below.refl w.heap.size w).alloc (Nat.le_refl _) (.cells #[.int .i64 id, .int .i64 en, .int .i64 pe, .string ref, .slice ja lines.length jc, .bool void] 81))
  have HZ := Lib.hid (blk_new w (.cells #[.int .i64 id, .int .i64 en, .int .i64 pe, .string ref, .slice ja lines.length jc, .bool void] 81))
  go_enter Tryz.func85, Tryz.ntmps85
  go_wp2_with fail
  refine (rcheck_any ⟨id, en, pe, ref, lines, void⟩ ja jc _ (Sl.keep (fun k hk _ => HB.out.block k hk) HJ.out)).mono ?_
  rintro e w1 ⟨rfl, hb⟩
  have HZ1 := Lib.hid (blk_below HZ.out hb)
  have HB1 := Lib.hid (belows_then HB.out HB.out.size hb)
  have hz := blk_cells HZ1.out
  clear hb
  go_wp2_with fail
  refine (rget_any l a cap id _ (Sl.keep (fun k hk _ => HB1.out.block k hk) HS.out) HL.out).mono ?_
  rintro e w2 ⟨x, xa, xc, rfl, hb, _⟩
  have HZ2 := Lib.hid (blk_below HZ1.out hb)
  have HB2 := Lib.hid (belows_then HB1.out HB1.out.size hb)
  clear hz hb
  obtain ⟨x0, x1, x2, x3, x4, x5⟩ := x
  have HZ3 := Lib.hid (blk_alloc HZ2.out (.cells #[.int .i64 x0, .int .i64 x1, .int .i64 x2, .string x3, .slice xa x4.length xc, .bool x5] 81))
  have HB3 := Lib.hid (HB2.out.alloc HB2.out.size (.cells #[.int .i64 x0, .int .i64 x1, .int .i64 x2, .string x3, .slice xa x4.length xc, .bool x5] 81))
  have hz := blk_cells HZ3.out
  rcases HC.out with ⟨h1, hr⟩ | ⟨h1, ⟨h2, hr⟩ | ⟨h2, ⟨h3, hr⟩ | ⟨h3, ⟨h4, hr⟩ | ⟨h4, hr⟩⟩⟩⟩
  · have HR := Lib.hid hr
    clear hr
    go_wp2_with fail
    go_ret
    rw [HR.out]
    exact ⟨rfl, HB3.out⟩
  · have HR := Lib.hid hr
    clear hr
    rw [h2]
    go_wp2_with fail
    go_ret
    rw [HR.out]
    exact ⟨rfl, HB3.out⟩
  · have HR := Lib.hid hr
    have H3 := Lib.hid h3
    clear hr h3
    rw [h2]
    go_wp2_with fail
    refine (rtaken_is l a cap ⟨id, en, pe, ref, lines, void⟩ ja jc _ (Sl.keep (fun k hk _ => HB3.out.block k hk) HS.out) HL.out H3.out).mono ?_
    rintro e w4 ⟨rfl, hb⟩
    have HB4 := Lib.hid (belows_then HB3.out HB3.out.size hb)
    clear hb hz
    go_wp2_with fail
    go_ret
    rw [HR.out]
    exact ⟨rfl, HB4.out⟩
  · have HR := Lib.hid hr
    have H3 := Lib.hid h3
    clear hr h3
    rw [h2]
    go_wp2_with fail
    refine (rtaken_is l a cap ⟨id, en, pe, ref, lines, void⟩ ja jc _ (Sl.keep (fun k hk _ => HB3.out.block k hk) HS.out) HL.out H3.out).mono ?_
    rintro e w4 ⟨rfl, hb⟩
    have HB4 := Lib.hid (belows_then HB3.out HB3.out.size hb)
    clear hb hz
    go_wp2_with fail
    go_ret
    rw [HR.out]
    exact ⟨rfl, HB4.out⟩
  · have HR := Lib.hid hr
    have H3 := Lib.hid h3
    clear hr h3
    rw [h2]
    go_wp2_with fail
    refine (rtaken_is l a cap ⟨id, en, pe, ref, lines, void⟩ ja jc _ (Sl.keep (fun k hk _ => HB3.out.block k hk) HS.out) HL.out H3.out).mono ?_
    rintro e w4 ⟨rfl, hb⟩
    have HB4 := Lib.hid (belows_then HB3.out HB3.out.size hb)
    clear hb hz
    go_wp2_with fail
    go_ret
    rw [HR.out]
    exact ⟨rfl, HB4.out⟩
end Go.Proofs.YtgggpaacagbmcaaGreat


/- The document's Put: the plain side, and one journal as a slice. -/
set_option linter.unusedVariables false
set_option linter.unusedSimpArgs false
namespace Go.Proofs.YtgggpaacagbmcaaGreat
open Go.RowKit Go.Maps

theorem infoJ : (Tryz.prog.info? 81).map (fun i => (i.zero, i.size, i.bytes)) = some (some (.agg #[.int .i64 0, .int .i64 0, .int .i64 0, .string ⟨#[]⟩, .slice none 0 0, .bool false]), 6, 72) := by kernel_rfl
theorem jn_one (w : World) (F : Nat → Prop) (c : List Value) (x : Jn) (h : tJn.R w F c x) : ∀ u ∈ c, u.oneCell' = true := by
  obtain ⟨a, cap, rfl, _⟩ := jn_inv h
  simp [Value.oneCell']
/-- one journal in a new block of its own, as append takes it -/
theorem sl_oneJ {w : World} {F : Nat → Prop} {b : Nat} {j : Jn} {a : Option Addr} {cap : Nat} (hb : w.heap[b]? = some (.cells #[.int .i64 j.id, .int .i64 j.en, .int .i64 j.pe, .string j.ref, .slice a j.lines.length cap, .bool j.void] 81 (0, 0)))
    (hF : F b) (hr : tJn.R w F (jcs j a cap) j) : Sl tJn w F (some ⟨b, 0, none⟩) [j] := by
  intro i x hi
  cases i with
  | succ i => simp at hi
  | zero =>
    simp at hi
    subst hi
    refine ⟨_, jcs j a cap, rfl, hF, (Array.getElem?_eq_some_iff.1 hb).1, fun k u hu => ?_, hr⟩
    rw [Nat.zero_mul, Go.Addr.add_add, Nat.zero_add]
    have : (⟨b, 0, none⟩ : Addr).add k = ⟨b, k, none⟩ := by unfold Addr.add; split <;> simp_all
    rw [this, cell_of_row w b k _ 81 (0, 0) hb]
    simpa using hu

def putStep (j : Jn) (s : List Jn × Bool) (x : Jn) : List Jn × Bool :=
  let t := if !s.2 && decide (j.id ≤ x.id) then (s.1 ++ [j], true) else s
  if x.id != j.id then (t.1 ++ [x], t.2) else t
def putS (j : Jn) (l : List Jn) : List Jn × Bool := l.foldl (putStep j) ([], false)
def putJ (l : List Jn) (j : Jn) : List Jn := if (putS j l).2 then (putS j l).1 else (putS j l).1 ++ [j]
theorem putS_succ (j : Jn) (l : List Jn) (n : Nat) (hn : n < l.length) : putS j (l.take (n + 1)) = putStep j (putS j (l.take n)) l[n] := by
  unfold putS
  rw [List.take_succ_eq_append_getElem hn, List.foldl_append]
  rfl
theorem putStep_len (j : Jn) (s : List Jn × Bool) (x : Jn) : (putStep j s x).1.length + (if s.2 then 1 else 0) ≤ s.1.length + 1 + (if (putStep j s x).2 then 1 else 0) := by
  unfold putStep
  obtain ⟨o, d⟩ := s
  cases d <;> by_cases h1 : j.id ≤ x.id <;> cases h2 : x.id != j.id <;> simp [h1, h2]
theorem putS_len (j : Jn) : ∀ (l : List Jn), (putS j l).1.length ≤ l.length + (if (putS j l).2 then 1 else 0) := by
  intro l
  have : ∀ n, n ≤ l.length → (putS j (l.take n)).1.length ≤ n + (if (putS j (l.take n)).2 then 1 else 0) := by
    intro n
    induction n with
    | zero => intro _; simp [putS]
    | succ n ih =>
      intro hn
      have h1 := ih (by omega)
      rw [putS_succ j l n (by omega)]
      have h2 := putStep_len j (putS j (l.take n)) l[n]
      omega
  have h := this l.length (Nat.le_refl _)
  rwa [List.take_length] at h
theorem putS_take_len (j : Jn) (l : List Jn) (n : Nat) (hn : n ≤ l.length) : (putS j (l.take n)).1.length ≤ l.length + 1 := by
  have h := putS_len j (l.take n)
  rw [List.length_take] at h
  split at h <;> omega
end Go.Proofs.YtgggpaacagbmcaaGreat
