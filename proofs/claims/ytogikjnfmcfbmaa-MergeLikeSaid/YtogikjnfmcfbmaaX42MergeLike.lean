/- The document's Same. -/
import Derived.Test.YtogikjnfmcfbmaaX24MergeLike
set_option linter.unusedVariables false
set_option linter.unusedSimpArgs false
namespace Go.Proofs.Ytogikjnfmcfbmaa
open Go.RowKit Go.Maps

theorem same_casesN {a b : Jn} {r : Bool} (h : sameJ a b = r) :
    (r = false ∧ ((a.id != b.id) = true ∨ (a.id != b.id) = false ∧ ((a.en != b.en) = true ∨ (a.en != b.en) = false ∧ ((a.pe != b.pe) = true ∨ (a.pe != b.pe) = false ∧ ((!a.ref.toList == b.ref.toList) = true ∨ (!a.ref.toList == b.ref.toList) = false ∧ (!a.void == b.void) = true))))) ∨
    ((a.id != b.id) = false ∧ (a.en != b.en) = false ∧ (a.pe != b.pe) = false ∧ (!a.ref.toList == b.ref.toList) = false ∧ (!a.void == b.void) = false ∧ decide (a.lines = b.lines) = r) := by
  have hc := same_cases h
  simp only [bne, Bool.not_eq_true', Bool.not_eq_false']
  exact hc

set_option maxHeartbeats 8000000 in
set_option maxRecDepth 100000 in
theorem rsame_any (a b : Jn) (aa ba : Option Addr) (ac bc : Nat) (w : World) {F G : Nat → Prop} (hs : Sl tLn w F aa a.lines) (ht : Sl tLn w G ba b.lines) (hl : a.lines.length ≤ maxLen) (hm : b.lines.length ≤ maxLen) {r : Bool} (hr : sameJ a b = r) :
    Calls Try.prog 11 #[jnv a aa ac, jnv b ba bc] w fun e w' => e = .returned (.bool r) ∧ Below w.heap.size w w' := by
  have hcs := same_casesN hr
  clear hr
  obtain ⟨i1, i2, i3, i4, l, i6⟩ := a
  obtain ⟨x1, x2, x3, x4, m, x6⟩ := b
  simp only at hs ht hl hm hcs
  have hbb : Below w.heap.size w ((w.alloc (.cells #[.int .i64 i1, .int .i64 i2, .int .i64 i3, .string i4, .slice aa l.length ac, .bool i6] 31)).alloc (.cells #[.int .i64 x1, .int .i64 x2, .int .i64 x3, .string x4, .slice ba m.length bc, .bool x6] 31)) := ((Below.refl w.heap.size w).alloc (Nat.le_refl _) (.cells #[.int .i64 i1, .int .i64 i2, .int .i64 i3, .string i4, .slice aa l.length ac, .bool i6] 31)).alloc (by simp) (.cells #[.int .i64 x1, .int .i64 x2, .int .i64 x3, .string x4, .slice ba m.length bc, .bool x6] 31)
  have HB := Lib.hid hbb
  have HS := Lib.hid hs
  have HT := Lib.hid ht
  have hl' : l.length ≤ 9223372036854775807 := by unfold maxLen at hl; omega
  have hm' : m.length ≤ 9223372036854775807 := by unfold maxLen at hm; omega
  have HZA : Hid ((((w.alloc (.cells #[.int .i64 i1, .int .i64 i2, .int .i64 i3, .string i4, .slice aa l.length ac, .bool i6] 31)).alloc (.cells #[.int .i64 x1, .int .i64 x2, .int .i64 x3, .string x4, .slice ba m.length bc, .bool x6] 31))).heap[w.heap.size]? = some (.cells #[.int .i64 i1, .int .i64 i2, .int .i64 i3, .string i4, .slice aa l.length ac, .bool i6] 31 (0, 0))) := Lib.hid (blk_alloc (blk_new w (.cells #[.int .i64 i1, .int .i64 i2, .int .i64 i3, .string i4, .slice aa l.length ac, .bool i6] 31)) (.cells #[.int .i64 x1, .int .i64 x2, .int .i64 x3, .string x4, .slice ba m.length bc, .bool x6] 31))
  have HZB : Hid ((((w.alloc (.cells #[.int .i64 i1, .int .i64 i2, .int .i64 i3, .string i4, .slice aa l.length ac, .bool i6] 31)).alloc (.cells #[.int .i64 x1, .int .i64 x2, .int .i64 x3, .string x4, .slice ba m.length bc, .bool x6] 31))).heap[w.heap.size + 1]? = some (.cells #[.int .i64 x1, .int .i64 x2, .int .i64 x3, .string x4, .slice ba m.length bc, .bool x6] 31 (0, 0))) := Lib.hid (by have := blk_new (w.alloc (.cells #[.int .i64 i1, .int .i64 i2, .int .i64 i3, .string i4, .slice aa l.length ac, .bool i6] 31)) (.cells #[.int .i64 x1, .int .i64 x2, .int .i64 x3, .string x4, .slice ba m.length bc, .bool x6] 31); simpa using this)
  clear hs ht hl hm hbb
  rcases hcs with ⟨rfl, h1 | ⟨h1, h2 | ⟨h2, h3 | ⟨h3, h4 | ⟨h4, h5⟩⟩⟩⟩⟩ | ⟨h1, h2, h3, h4, h5, h6⟩
  iterate 5
    go_enter Try.func11, Try.ntmps11
    go_wp2_with fail
    go_ret
    exact ⟨rfl, HB.out⟩
  by_cases hlen : l.length = m.length
  · have hq : ((l.length : Int) != (m.length : Int)) = false := by simp [hlen]
    have HLEN := Lib.hid hlen
    have H6 := Lib.hid h6
    clear hlen h6
    go_enter Try.func11, Try.ntmps11
    go_wp2_with fail
    go_loopw [5] (fun vi wr => ∃ n : Nat, n ≤ l.length ∧ vi = .int .i64 n ∧ Hid (l.take n = m.take n) ∧ wr.heap[w.heap.size]? = some (.cells #[.int .i64 i1, .int .i64 i2, .int .i64 i3, .string i4, .slice aa l.length ac, .bool i6] 31 (0, 0)) ∧ wr.heap[w.heap.size + 1]? = some (.cells #[.int .i64 x1, .int .i64 x2, .int .i64 x3, .string x4, .slice ba m.length bc, .bool x6] 31 (0, 0)) ∧ Below w.heap.size w wr) (fun vi _ => l.length - (intOf vi).toNat)
    case atStart => exact ⟨0, Nat.zero_le _, rfl, Lib.hid rfl, HZA.out, HZB.out, HB.out⟩
    case round =>
      obtain ⟨n, hn, rfl, htk, hza, hzb, hb⟩ := hrel
      have HA := Lib.hid hza
      have HBB := Lib.hid hzb
      have HBR := Lib.hid hb
      have hz1 := blk_cells hza
      have hz2 := blk_cells hzb
      have hzl1 := blk_lt hza
      have hzl2 := blk_lt hzb
      clear hza hzb hb
      by_cases hlt : n < l.length
      · have hlt2 : n < m.length := by have := HLEN.out; omega
        obtain ⟨ad, rfl, _, hadl, hc0, hc1, hc2, _⟩ := ln_at (Sl.keep (fun k hk _ => HBR.out.block k hk) HS.out) n hlt
        obtain ⟨bd, rfl, _, hbdl, hd0, hd1, hd2, _⟩ := ln_at (Sl.keep (fun k hk _ => HBR.out.block k hk) HT.out) n hlt2
        have HEQ : Hid (l[n] = m[n] → l.take (n + 1) = m.take (n + 1)) := Lib.hid (fun h => take_eq_succM htk.out hlt hlt2 h)
        have HNE : Hid (l[n] ≠ m[n] → r = false) := Lib.hid (fun h => by rw [← H6.out]; simpa using ne_atM hlt hlt2 h)
        generalize l[n] = x at *
        generalize m[n] = y at *
        obtain ⟨y1, y2, y3⟩ := x
        obtain ⟨z1, z2, z3⟩ := y
        simp only at hc0 hc1 hc2 hd0 hd1 hd2
        have hcs : ((y1 == z1) = true ∧ (y2 == z2) = true ∧ (y3 == z3) = true ∧ y1 = z1 ∧ y2 = z2 ∧ y3 = z3) ∨ ((y1 == z1) = false ∧ ¬ (y1 = z1 ∧ y2 = z2 ∧ y3 = z3) ∨ (y1 == z1) = true ∧ (y2 == z2) = false ∧ ¬ (y1 = z1 ∧ y2 = z2 ∧ y3 = z3) ∨ (y1 == z1) = true ∧ (y2 == z2) = true ∧ (y3 == z3) = false ∧ ¬ (y1 = z1 ∧ y2 = z2 ∧ y3 = z3)) := by
          by_cases h1 : y1 = z1 <;> by_cases h2 : y2 = z2 <;> by_cases h3 : y3 = z3 <;> simp [h1, h2, h3]
        rcases hcs with ⟨k1, k2, k3, e1, e2, e3⟩ | ⟨k1, hne⟩ | ⟨k1, k2, hne⟩ | ⟨k1, k2, k3, hne⟩
        · have HN := Lib.hid (HEQ.out (by rw [e1, e2, e3]))
          clear e1 e2 e3
          go_wp2_with fail
          go_quiet (fail)
          go_wp2_with fail
          go_roundw
          case rel => exact ⟨n + 1, by omega, by go_num, HN, blk_drew HA.out _, blk_drew HBB.out _, below_drewN HBR.out _⟩
          case measure => simp [intOf]; omega
        all_goals
          have HF := Lib.hid (HNE.out (by simpa using hne))
          clear hne
          go_wp2_with fail
          go_quiet (fail)
          go_wp2_with fail
          go_ret
          rw [HF.out]
          exact ⟨rfl, below_drewN HBR.out _⟩
      · have HF : Hid (r = true) := Lib.hid (by
          rw [← H6.out]
          have h := htk.out
          have hnn : n = l.length := by omega
          rw [hnn, List.take_length, HLEN.out, List.take_length] at h
          simpa using h)
        go_wp2_with fail
        go_ret
        rw [HF.out]
        exact ⟨rfl, HBR.out⟩
  · have hq : ((l.length : Int) != (m.length : Int)) = true := by simp; omega
    have HF : Hid (r = false) := Lib.hid (by rw [← h6]; simp; intro h; exact hlen (by rw [h]))
    clear hlen h6
    go_enter Try.func11, Try.ntmps11
    go_wp2_with fail
    go_ret
    rw [HF.out]
    exact ⟨rfl, HB.out⟩
end Go.Proofs.Ytogikjnfmcfbmaa
