/- book: All, Get. -/
import Derived.Test.YtfbbjlhhkfdncaaBf
set_option linter.unusedVariables false
set_option linter.unusedSimpArgs false
namespace Go.Proofs.Ytfbbjlhhkfdncaa
open Go.RowKit Go.Maps

theorem app_cells {w2 : World} {x : Jn} {la : Option Addr} {lc : Nat} {base B : Nat} {F : Nat → Prop} {vo : Value} {O : List Jn} (hr : tJn.R w2 (fun k => B ≤ k ∧ k < w2.heap.size) (jcs x la lc) x) (hB : ∀ k, vo.ownBlock = some k → k < B) (hF : ∀ k, B ≤ k → F k) (o : Obj)
    (ho : o = .cells #[.int .i64 x.id, .int .i64 x.en, .int .i64 x.pe, .string x.ref, .slice la x.lines.length lc, .bool x.void] 31) :
    ∀ i y, [x][i]? = some y → ∃ ces, (∀ k u, ces[k]? = some u → (w2.alloc o).cell? (((⟨w2.heap.size, 0, none⟩ : Addr).add (i * tJn.n)).add k) = some u) ∧ tJn.R (w2.alloc o) (fun k => F k ∧ some k ≠ vo.ownBlock ∧ k < (w2.alloc o).heap.size) ces y := by
  subst ho
  refine cells_oneJ (a := la) (cap := lc) (blk_new w2 _) ?_
  refine tJn.mono (fun k hk hf => ⟨hF k hf.1, fun e => ?_, hk⟩) (tJn.keep (fun k hk _ => Below.heap_alloc w2 _ k hk) hr)
  have := hB _ e.symm
  have hf' := hf.1
  omega

def AllPostJ (w : World) (l : List Jn) (e : Ending) (w' : World) : Prop :=
  ∃ v, e = .returned v ∧ OwnF tJn w' w.heap.size (fun k => w.heap.size ≤ k) v l ∧ Below w.heap.size w w'

set_option maxHeartbeats 8000000 in
set_option maxRecDepth 100000 in
theorem ball_any {w : World} {b : Nat} {a : Option Addr} {cap : Nat} {l : List Jn} {F : Nat → Prop} (h : BookAt w b a cap l F) (hl : l.length ≤ 1000) (hne : ∀ x ∈ l, x.lines ≠ []) :
    Calls Try.prog 37 #[.pointer (some ⟨b, 0, none⟩)] w (AllPostJ w l) := by
  have hcb := blk_cells h.cell
  have HS := Lib.hid h.sl
  have HNE := Lib.hid hne
  clear h hne
  obtain ⟨i0, hi, hz0, hz1, hz2⟩ := info_parts infoJ
  go_enter Try.func37, Try.ntmps37
  go_wp2_with fail
  clear hcb
  go_loopw [3, 13] (fun vo vi wr => ∃ (n : Nat) (vx : Value), vx = vo ∧ n ≤ l.length ∧ vi = .int .i64 n ∧ OwnF tJn wr w.heap.size (fun k => w.heap.size ≤ k) vx (l.take n) ∧ Below w.heap.size w wr) (fun _ vi _ => l.length - (intOf vi).toNat)
  case atStart => exact ⟨0, _, rfl, Nat.zero_le _, rfl, OwnF.nil _ _ _, Below.refl _ _⟩
  case round =>
    obtain ⟨n, vo, rfl, hn, rfl, ho, hb⟩ := hrel
    have HO := Lib.hid ho
    have HB1 := Lib.hid hb
    clear ho hb
    by_cases hlt : n < l.length
    · obtain ⟨ad, la, lc, rfl, _, hadl, hc0, hc1, hc2, hc3, hc4, hc5, hr⟩ := jn_at (Sl.keep (fun k hk _ => HB1.out.block k hk) HS.out) n hlt
      have HR := Lib.hid (tJn.keep (w' := wr.alloc (.cells #[.int .i64 l[n].id, .int .i64 l[n].en, .int .i64 l[n].pe, .string l[n].ref, .slice la l[n].lines.length lc, .bool l[n].void] 31)) (fun k hk _ => Below.heap_alloc wr _ k hk) hr)
      have HBA := Lib.hid (HB1.out.alloc HB1.out.size (.cells #[.int .i64 l[n].id, .int .i64 l[n].en, .int .i64 l[n].pe, .string l[n].ref, .slice la l[n].lines.length lc, .bool l[n].void] 31))
      have HOA := Lib.hid (HO.out.alloc (.cells #[.int .i64 l[n].id, .int .i64 l[n].en, .int .i64 l[n].pe, .string l[n].ref, .slice la l[n].lines.length lc, .bool l[n].void] 31))
      have HLN := Lib.hid (HNE.out l[n] (List.getElem_mem hlt))
      have hlen : (l.take n).length + [l[n]].length ≤ 1001 := by rw [List.length_take]; simp only [List.length_cons, List.length_nil]; omega
      clear hr
      go_wp2_with fail
      refine (ecopy_any l[n] la lc _ HR.out HLN.out).mono ?_
      rintro e w2 ⟨a2, c2, rfl, hb, hr⟩
      have HB2 := Lib.hid (belows_then HBA.out HBA.out.size hb)
      have HO2 := Lib.hid ((HOA.out.below hb).alloc (.cells #[.int .i64 l[n].id, .int .i64 l[n].en, .int .i64 l[n].pe, .string l[n].ref, .slice a2 l[n].lines.length c2, .bool l[n].void] 31))
      have HX := Lib.hid (app_cells (F := fun k => w.heap.size ≤ k) (base := 0) (O := []) (vo := vo) hr (fun k e => (HOA.out.lt k e).2) (fun k hk => Nat.le_trans HBA.out.size hk) _ rfl)
      clear hb hr hc0 hc1 hc2 hc3 hc4 hc5 hadl
      go_wp2_with (at_builtin; refine wp_appF (T := tJn) rfl _ _ 22 rfl i0 (.agg #[.int .i64 0, .int .i64 0, .int .i64 0, .string ⟨#[]⟩, .slice none 0 0, .bool false]) 72 Try.underlying22 hi hz0 hz1 hz2 rfl (by decide) jn_one w.heap.size (fun k => w.heap.size ≤ k) vo (l.take n) rfl HO2.out ⟨w2.heap.size, 0, none⟩ 1 [l[n]] rfl HX.out (by unfold maxLen; omega) (by omega) (by have := HB2.out.size; simp; omega) ?_; intro v3 w3 hown hg hnil hat; have HO3 := Lib.hid hown; have HB3 := Lib.hid (Below.grown (Below.alloc HB2.out HB2.out.size _) hg (Nat.le_trans HB2.out.size (by simp)) (fun k e => (HO2.out.lt k e).1)); clear hown hg hnil hat)
      go_roundw
      case rel => exact ⟨n + 1, _, rfl, by omega, by go_num, by rw [List.take_succ_eq_append_getElem hlt]; exact HO3.out, HB3.out⟩
      case measure => simp [intOf]; omega
    · have HL : Hid (l.take n = l) := Lib.hid (take_all hn hlt)
      go_wp2_with fail
      go_ret
      exact ⟨vo, rfl, by have := HO.out; rwa [HL.out] at this, HB1.out⟩
end Go.Proofs.Ytfbbjlhhkfdncaa
