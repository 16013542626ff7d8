/- book: taken. -/
import Derived.Test.YtfbbjlhhkfdncaaBb
import Derived.Deep.RegionWith
set_option linter.unusedVariables false
set_option linter.unusedSimpArgs false
namespace Go.Proofs.Ytfbbjlhhkfdncaa
open Go.RowKit Go.Maps

/-- a book behind a pointer: its field holds the list -/
structure BookAt (w : World) (b : Nat) (a : Option Addr) (cap : Nat) (l : List Jn) (F : Nat → Prop) : Prop where
  cell : w.heap[b]? = some (.cells #[.slice a l.length cap] 124 (0, 0))
  sl : Sl tJn w F a l
  len : l.length ≤ cap
  cap : cap ≤ maxLen
theorem BookAt.below {w w' : World} {b : Nat} {a : Option Addr} {cap : Nat} {l : List Jn} {F : Nat → Prop} (h : BookAt w b a cap l F) (hb : Below w.heap.size w w') : BookAt w' b a cap l F :=
  ⟨blk_below h.cell hb, Sl.keep (fun k hk _ => hb.block k hk) h.sl, h.len, h.cap⟩
theorem containsJ_is (l : List Jn) (a : Option Addr) (cap : Nat) (h : Jn) (ha : Option Addr) (hc : Nat) (w : World) {F : Nat → Prop} (hs : Sl tJn w F a l) (hl : l.length ≤ maxLen) {b : Bool} (hb : l.any (clash h) = b) :
    Calls Try.prog 127 #[.slice a l.length cap, .func (.func 128) #[jnv h ha hc] #[]] w fun e w' => e = .returned (.bool b) ∧ Below w.heap.size w w' := by
  have := containsJ_any l a cap h ha hc w hs hl
  rwa [hb] at this

set_option maxHeartbeats 4000000 in
set_option maxRecDepth 100000 in
theorem taken_any {w : World} {b : Nat} {a : Option Addr} {cap : Nat} {l : List Jn} {F : Nat → Prop} (h : BookAt w b a cap l F) (j : Jn) (ja : Option Addr) (jc : Nat) :
    Calls Try.prog 97 #[.pointer (some ⟨b, 0, none⟩), jnv j ja jc] w fun e w' => e = .returned (.bool (takenJ l j)) ∧ Below w.heap.size w w' := by
  have H := Lib.hid h
  have hbl := blk_lt h.cell
  clear h
  generalize hres : takenJ l j = res
  have HR := Lib.hid hres
  clear hres
  obtain ⟨id, en, pe, ref, lines, void⟩ := j
  have hact : (void = true ∨ void = false ∧ (ref.toList.isEmpty = true ∨ ref.toList.isEmpty = false)) := by
    cases ref.toList.isEmpty <;> cases void <;> simp
  have hcj := blk_cells (blk_new w (.cells #[.int .i64 id, .int .i64 en, .int .i64 pe, .string ref, .slice ja lines.length jc, .bool void] 31))
  have hcb := blk_cells (blk_alloc H.out.cell (.cells #[.int .i64 id, .int .i64 en, .int .i64 pe, .string ref, .slice ja lines.length jc, .bool void] 31))
  have HB := Lib.hid ((Below.refl w.heap.size w).alloc (Nat.le_refl _) (.cells #[.int .i64 id, .int .i64 en, .int .i64 pe, .string ref, .slice ja lines.length jc, .bool void] 31))
  rcases hact with rfl | ⟨rfl, h2 | h2⟩
  · have hr : res = false := by rw [← HR.out]; simp [takenJ]
    have HRR := Lib.hid hr
    clear hr
    go_enter Try.func97, Try.ntmps97
    go_wp2_with fail
    go_quiet (fail)
    go_wp2_with fail
    go_ret
    rw [HRR.out]
    exact ⟨rfl, below_drewN HB.out _⟩
  · have hr : res = false := by rw [← HR.out]; simp [takenJ, h2]
    have HRR := Lib.hid hr
    clear hr
    go_enter Try.func97, Try.ntmps97
    go_wp2_with fail
    go_quiet (fail)
    go_wp2_with fail
    go_ret
    rw [HRR.out]
    exact ⟨rfl, below_drewN HB.out _⟩
  · have hr : l.any (clash ⟨id, en, pe, ref, lines, false⟩) = res := by rw [← HR.out]; simp only [takenJ, h2, Bool.not_false, Bool.true_and]
    have HRR := Lib.hid hr
    have HSL := Lib.hid ((H.out.below HB.out).sl)
    have HSD : Hid (Sl tJn (w.alloc (.cells #[.int .i64 id, .int .i64 en, .int .i64 pe, .string ref, .slice ja lines.length jc, .bool false] 31)).drew F a l) := Sl.keep (fun k hk _ => rfl) HSL.out
    have HL : Hid (l.length ≤ maxLen) := Nat.le_trans H.out.len H.out.cap
    clear hr
    go_enter Try.func97, Try.ntmps97
    go_wp2_with fail
    go_region_with (go_at_call 127; refine (containsJ_is l a cap ⟨id, en, pe, ref, lines, false⟩ ja jc (w.alloc (.cells #[.int .i64 id, .int .i64 en, .int .i64 pe, .string ref, .slice ja lines.length jc, .bool false] 31)).drew HSD.out HL.out HRR.out).mono ?_; rintro e w' ⟨rfl, hb⟩)
    all_goals
      have HB2 := Lib.hid (belows_then (Below.drew HB.out) HB.out.size hb)
      clear hb
      go_wp2_with fail
      go_ret
      exact ⟨rfl, HB2.out⟩
end Go.Proofs.Ytfbbjlhhkfdncaa
