/- The document's Get, whole: the journal, or none. -/
import Derived.Test.YtogikjnfmcfbmaaX22MergeApart
set_option linter.unusedVariables false
set_option linter.unusedSimpArgs false
namespace Go.Proofs.Ytogikjnfmcfbmaa
open Go.RowKit Go.Maps

theorem find_getJ {l : List Jn} {id : Int} {x : Jn} (h : l.find? (fun j => j.id == id) = some x) : getJ l id = x := by unfold getJ; rw [h]; rfl
set_option maxHeartbeats 2000000 in
set_option maxRecDepth 100000 in
theorem rget_is (l : List Jn) (a : Option Addr) (cap : Nat) (id : Int) (w : World) {F : Nat → Prop} (hs : Sl tJn w F a l) (hl : l.length ≤ maxLen) {x : Jn} {b : Bool} (hx : getJ l id = x) (hb : hasJ l id = b) :
    Calls Try.prog 10 #[.slice a l.length cap, .int .i64 id] w fun e w' => ∃ xa xc, e = .returned (.tuple #[jnv x xa xc, .bool b]) ∧ Below w.heap.size w w' ∧ tJn.R w' (fun _ => True) (jcs x xa xc) x := by
  have HS := Lib.hid hs
  have HXB := Lib.hid (And.intro hx hb)
  have hl' : l.length ≤ 9223372036854775807 := by unfold maxLen at hl; omega
  clear hs hl hx hb
  have HB := Lib.hid ((Below.refl w.heap.size w).alloc (Nat.le_refl _) (.cells #[.int .i64 0, .int .i64 0, .int .i64 0, .string ⟨#[]⟩, .slice none 0 0, .bool false] 31))
  have HZ := Lib.hid (blk_new w (.cells #[.int .i64 0, .int .i64 0, .int .i64 0, .string ⟨#[]⟩, .slice none 0 0, .bool false] 31))
  go_enter Try.func10, Try.ntmps10
  go_wp2_with fail
  go_loopw [6] (fun vi wr => ∃ n : Nat, n ≤ l.length ∧ vi = .int .i64 n ∧ Hid ((l.take n).any (fun j => j.id == id) = false) ∧ wr = w.alloc (.cells #[.int .i64 0, .int .i64 0, .int .i64 0, .string ⟨#[]⟩, .slice none 0 0, .bool false] 31)) (fun vi _ => l.length - (intOf vi).toNat)
  case atStart => exact ⟨0, Nat.zero_le _, rfl, rfl, rfl⟩
  case round =>
    obtain ⟨n, hn, rfl, hany, hwr⟩ := hrel
    have HB1 : Hid (Below w.heap.size w wr) := by rw [hwr]; exact HB
    have HZ1 : Hid (wr.heap[w.heap.size]? = some (.cells #[.int .i64 0, .int .i64 0, .int .i64 0, .string ⟨#[]⟩, .slice none 0 0, .bool false] 31 (0, 0))) := by rw [hwr]; exact HZ
    have HWR := Lib.hid hwr
    clear hwr
    have hz := blk_cells HZ1.out
    have hzf := blk_frz HZ1.out
    have hzl := blk_lt HZ1.out
    by_cases hlt : n < l.length
    · obtain ⟨ad, la, lc, rfl, _, hadl, hc0, hc1, hc2, hc3, hc4, hc5, hr⟩ := jn_at (HS.out.keep fun k hk _ => HB1.out.block k hk) n hlt
      have HR := Lib.hid hr
      clear hr
      cases hv : (l[n].id == id)
      · have hnext := (any_take_succ (fun j : Jn => j.id == id) l n hlt).trans (by rw [hany.out, hv]; try rfl)
        have HN := Lib.hid hnext
        clear hnext
        go_wp2_with fail
        go_roundw
        case rel => exact ⟨n + 1, by omega, by go_num, HN.out, HWR.out⟩
        case measure => simp [intOf]; omega
      · have hhas : hasJ l id = true := any_at _ l n hlt hv
        have hfind := find_first (fun j : Jn => j.id == id) l n hlt hany.out hv
        have HF : Hid (l[n] = x ∧ true = b) := Lib.hid ⟨by rw [← HXB.out.1]; exact (find_getJ hfind).symm, by rw [← HXB.out.2]; exact hhas.symm⟩
        clear hhas hfind
        go_wp2_with fail
        obtain ⟨w4, hw4, h4, hs4, hk4, hb4⟩ := six wr w.heap.size HZ1.out (.int .i64 l[n].id) (.int .i64 l[n].en) (.int .i64 l[n].pe) (.string l[n].ref) (.slice la l[n].lines.length lc) (.bool l[n].void)
        rw [hw4]
        clear hw4
        refine bodyPost_ret (v := .tuple #[jnv l[n] la lc, .bool true]) (results_row_tmp (fn := Try.f10) (p := 4) (ty := 31) rfl _ _ w.heap.size 31 _ (0, 0) _ rfl h4 Try.underlying31 rfl (by kernel_rfl)) rfl ?_
        have hB4 := hb4 _ _ HB1.out (Nat.le_refl _)
        obtain ⟨ad0, la0, lc0, he, _, hlt0, _, _, _, _, hc40, _, hr0⟩ := jn_at HS.out n hlt
        injection he with he
        subst he
        have hcc := HB1.out.cell (p := ⟨(ad.add (n * 6)).block, (ad.add (n * 6)).off + 4, none⟩) (by show (ad.add (n * 6)).block < _; rw [add_block]; exact hlt0)
        rw [hcc, hc40] at hc4
        simp at hc4
        obtain ⟨rfl, rfl⟩ := hc4
        have hR := tJn.mono (G := fun _ => True) (fun _ _ _ => trivial) (tJn.keep (fun k hk _ => hB4.block k hk) hr0)
        obtain ⟨e1, e2⟩ := HF.out
        rw [e1] at hR ⊢
        subst e2
        exact ⟨la0, lc0, rfl, hB4, hR⟩
    · have hno : hasJ l id = false := by
        have := hany.out
        rwa [take_all hn hlt] at this
      have HNO : Hid (x = jn0 ∧ b = false) := Lib.hid ⟨by rw [← HXB.out.1]; exact getJ_no hno, by rw [← HXB.out.2]; exact hno⟩
      clear hno hany
      go_wp2_with fail
      obtain ⟨w4, hw4, h4, hs4, hk4, hb4⟩ := six wr w.heap.size HZ1.out (.int .i64 0) (.int .i64 0) (.int .i64 0) (.string ⟨#[]⟩) (.slice none 0 0) (.bool false)
      rw [hw4]
      clear hw4
      refine bodyPost_ret (v := .tuple #[jnv jn0 none 0, .bool false]) (results_row_tmp (fn := Try.f10) (p := 4) (ty := 31) rfl _ _ w.heap.size 31 _ (0, 0) _ rfl h4 Try.underlying31 rfl (by kernel_rfl)) rfl ?_
      obtain ⟨e1, e2⟩ := HNO.out
      subst e1
      subst e2
      exact ⟨none, 0, rfl, hb4 _ _ HB1.out (Nat.le_refl _), jn0_R _ _⟩
end Go.Proofs.Ytogikjnfmcfbmaa
