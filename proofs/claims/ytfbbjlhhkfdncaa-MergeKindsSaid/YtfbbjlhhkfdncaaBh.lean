/- book: Get. -/
import Derived.Test.YtfbbjlhhkfdncaaBg
set_option linter.unusedVariables false
set_option linter.unusedSimpArgs false
namespace Go.Proofs.Ytfbbjlhhkfdncaa
open Go.RowKit Go.Maps

/-- what a book has under a number; a zero journal: nothing -/
def getJ (l : List Jn) (id : Int) : Jn := (l.find? (fun j => j.id == id)).getD jn0
theorem getJ_no {l : List Jn} {id : Int} (h : hasJ l id = false) : getJ l id = jn0 := by
  unfold getJ
  have : l.find? (fun j => j.id == id) = none := by
    rw [List.find?_eq_none]
    intro x hx
    unfold hasJ at h
    rw [List.any_eq_false] at h
    exact h x hx
  rw [this]
  rfl
theorem getJ_at {l : List Jn} (hi : IncJ l) {k : Nat} (hk : k < l.length) : getJ l l[k].id = l[k] := by
  unfold getJ
  have : l.find? (fun j => j.id == l[k].id) = some l[k] := find_first (fun j : Jn => j.id == l[k].id) l k hk (by
    rw [List.any_eq_false]
    intro x hx
    have := inc_new hi hk x hx
    simp
    omega) (by simp)
  rw [this]
  rfl
theorem jn0_R (w : World) (F : Nat → Prop) : tJn.R w F (jcs jn0 none 0) jn0 :=
  jn_mk jn0 (by decide) (by decide) (by decide) (by decide) (fun i x hx => by simp at hx) (by decide) (by decide) (by rw [line_bytes]; decide)

def GetB (w : World) (x : Jn) (b : Bool) (e : Ending) (w' : World) : Prop :=
  ∃ a c, e = .returned (.tuple #[jnv x a c, .bool b]) ∧ tJn.R w' (fun k => w.heap.size ≤ k ∧ k < w'.heap.size) (jcs x a c) x ∧ Below w.heap.size w w'

set_option maxHeartbeats 8000000 in
set_option maxRecDepth 100000 in
theorem bget_any {w : World} {g : Nat} {a : Option Addr} {cap : Nat} {l : List Jn} {F : Nat → Prop} (h : BookAt w g a cap l F) (hl : l.length ≤ 1000) (hO : OrdJ l) (hne : ∀ x ∈ l, x.lines ≠ []) (id : Int) (hid : I64 id) :
    Calls Try.prog 67 #[.pointer (some ⟨g, 0, none⟩), .int .i64 id] w (GetB w (getJ l id) (hasJ l id)) := by
  have HB := Lib.hid ((Below.refl w.heap.size w).alloc (Nat.le_refl _) (.cells #[.int .i64 0, .int .i64 0, .int .i64 0, .string ⟨#[]⟩, .slice none 0 0, .bool false] 31))
  have HZ := Lib.hid (blk_new w (.cells #[.int .i64 0, .int .i64 0, .int .i64 0, .string ⟨#[]⟩, .slice none 0 0, .bool false] 31))
  have HK := Lib.hid (h.below HB.out)
  have HO := Lib.hid hO
  have HNE := Lib.hid hne
  have HID := Lib.hid hid
  clear h hO hne hid
  generalize hx : getJ l id = x
  generalize hb : hasJ l id = b
  have HX := Lib.hid hx
  have HBB := Lib.hid hb
  clear hx hb
  go_enter Try.func67, Try.ntmps67
  go_wp2_with fail
  refine (find_any HK.out (by omega) HO.out id HID.out).mono ?_
  rintro en w2 ⟨k, rfl, HE, hb⟩
  have HEE := Lib.hid HE
  have HB2 := Lib.hid (belows_then HB.out (by simp) hb)
  have HZ2 := Lib.hid (blk_below HZ.out hb)
  have HK2 := Lib.hid (HK.out.below hb)
  have hz := blk_cells HZ2.out
  have hzf := blk_frz HZ2.out
  have hzl := blk_lt HZ2.out
  have hkc := blk_cells HK2.out.cell
  rw [HBB.out]
  clear HE hb HB HZ HK
  cases b
  · have HXX : Hid (x = jn0) := Lib.hid (by rw [← HX.out]; exact getJ_no HBB.out)
    go_wp2_with fail
    obtain ⟨w4, hw4, h4, hs4, hk4, hb4⟩ := six w2 w.heap.size HZ2.out (.int .i64 0) (.int .i64 0) (.int .i64 0) (.string ⟨#[]⟩) (.slice none 0 0) (.bool false)
    rw [hw4]
    clear hw4
    refine bodyPost_ret (v := .tuple #[jnv jn0 none 0, .bool false]) (results_row_tmp (fn := Try.f67) (p := 4) (ty := 31) rfl _ _ w.heap.size 31 _ (0, 0) _ rfl h4 Try.underlying31 rfl (by kernel_rfl)) rfl ?_
    rw [HXX.out]
    exact ⟨none, 0, rfl, jn0_R _ _, hb4 _ _ HB2.out (Nat.le_refl _)⟩
  · obtain ⟨hk, hkid⟩ := HEE.out.here HBB.out
    have HXX : Hid (x = l[k]) := Lib.hid (by rw [← HX.out, ← hkid]; exact getJ_at HO.out.ord hk)
    obtain ⟨ad, la, lc, rfl, _, hadl, hc0, hc1, hc2, hc3, hc4, hc5, hr⟩ := jn_at HK2.out.sl k hk
    have HR := Lib.hid hr
    have HLN := Lib.hid (HNE.out l[k] (List.getElem_mem hk))
    have hkl : k < l.length := hk
    clear hr hkid
    go_wp2_with fail
    refine (ecopy_any l[k] la lc _ HR.out HLN.out).mono ?_
    rintro en w3 ⟨a3, c3, rfl, hb, hr⟩
    have HZ3 := Lib.hid (blk_below HZ2.out hb)
    have HB3 := Lib.hid (belows_then HB2.out HB2.out.size hb)
    have HR3 := Lib.hid hr
    have HS3 := Lib.hid HB2.out.size
    clear hz hzf hzl hr hb hc0 hc1 hc2 hc3 hc4 hc5 hadl hkc
    have hz := blk_cells HZ3.out
    have hzf := blk_frz HZ3.out
    have hzl := blk_lt HZ3.out
    go_wp2_with fail
    obtain ⟨w4, hw4, h4, hs4, hk4, hb4⟩ := six w3 w.heap.size HZ3.out (.int .i64 l[k].id) (.int .i64 l[k].en) (.int .i64 l[k].pe) (.string l[k].ref) (.slice a3 l[k].lines.length c3) (.bool l[k].void)
    rw [hw4]
    clear hw4
    refine bodyPost_ret (v := .tuple #[jnv l[k] a3 c3, .bool true]) (results_row_tmp (fn := Try.f67) (p := 4) (ty := 31) rfl _ _ w.heap.size 31 _ (0, 0) _ rfl h4 Try.underlying31 rfl (by kernel_rfl)) rfl ?_
    rw [HXX.out]
    refine ⟨a3, c3, rfl, ?_, hb4 _ _ HB3.out (Nat.le_refl _)⟩
    have hlt2 := blk_lt HZ2.out
    refine tJn.mono (fun kk _ hf => (⟨Nat.le_trans HS3.out hf.1, by rw [hs4]; exact hf.2⟩ : w.heap.size ≤ kk ∧ kk < w4.heap.size)) (tJn.keep (fun kk hkk hf => hk4 kk (by have := hf.1; omega)) HR3.out)
end Go.Proofs.Ytfbbjlhhkfdncaa
