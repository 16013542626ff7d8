/- Are two journals alike? slices.Equal at lines, entry.Same, the document's Same. -/
import Derived.Test.YtogikjnfmcfbmaaX22MergeApart
set_option linter.unusedVariables false
set_option linter.unusedSimpArgs false
namespace Go.Proofs.Ytogikjnfmcfbmaa
open Go.RowKit Go.Maps

theorem take_eq_succM {α : Type} {a b : List α} {n : Nat} (h : a.take n = b.take n) (h1 : n < a.length) (h2 : n < b.length) (he : a[n] = b[n]) : a.take (n + 1) = b.take (n + 1) := by
  rw [List.take_succ_eq_append_getElem h1, List.take_succ_eq_append_getElem h2, h, he]
theorem ne_atM {α : Type} {a b : List α} {n : Nat} (h1 : n < a.length) (h2 : n < b.length) (he : a[n] ≠ b[n]) : a ≠ b := by
  rintro rfl
  exact he rfl


set_option maxHeartbeats 4000000 in
set_option maxRecDepth 100000 in
theorem eqL_any (l m : List Ln) (a b : Option Addr) (ca cb : Nat) (w : World) {F G : Nat → Prop} (hs : Sl tLn w F a l) (ht : Sl tLn w G b m) (hl : l.length ≤ maxLen) (hm : m.length ≤ maxLen) {r : Bool} (hr : decide (l = m) = r) :
    Calls Try.prog 60 #[.slice a l.length ca, .slice b m.length cb] w fun e w' => e = .returned (.bool r) ∧ Below w.heap.size w w' := by
  have HS := Lib.hid hs
  have HT := Lib.hid ht
  have HR := Lib.hid hr
  have hl' : l.length ≤ 9223372036854775807 := by unfold maxLen at hl; omega
  have hm' : m.length ≤ 9223372036854775807 := by unfold maxLen at hm; omega
  clear hs ht hl hm hr
  by_cases hlen : l.length = m.length
  · have hle : l.length ≤ m.length := by omega
    have hge : m.length ≤ l.length := by omega
    have hq : ((l.length : Int) != (m.length : Int)) = false := by simp [hlen]
    have HLEN := Lib.hid hlen
    clear hlen
    go_enter Try.func60, Try.ntmps60
    go_wp2_with fail
    go_loopw [13] (fun vi wr => ∃ n : Nat, n ≤ l.length ∧ vi = .int .i64 n ∧ Hid (l.take n = m.take n) ∧ Below w.heap.size w wr) (fun vi _ => l.length - (intOf vi).toNat)
    case atStart => exact ⟨0, Nat.zero_le _, rfl, Lib.hid rfl, Below.refl _ _⟩
    case round =>
      obtain ⟨n, hn, rfl, htk, hb⟩ := hrel
      have HB := Lib.hid hb
      clear hb
      by_cases hlt : n < l.length
      · have hlt2 : n < m.length := by omega
        obtain ⟨ad, rfl, _, hadl, hc0, hc1, hc2, _⟩ := ln_at (Sl.keep (fun k hk _ => HB.out.block k hk) HS.out) n hlt
        obtain ⟨bd, rfl, _, hbdl, hd0, hd1, hd2, _⟩ := ln_at (Sl.keep (fun k hk _ => HB.out.block k hk) HT.out) n hlt2
        have HEQ : Hid (l[n] = m[n] → l.take (n + 1) = m.take (n + 1)) := Lib.hid (fun h => take_eq_succM htk.out hlt hlt2 h)
        have HNE : Hid (l[n] ≠ m[n] → r = false) := Lib.hid (fun h => by rw [← HR.out]; simpa using ne_atM hlt hlt2 h)
        generalize l[n] = x at *
        generalize m[n] = y at *
        obtain ⟨x1, x2, x3⟩ := x
        obtain ⟨y1, y2, y3⟩ := y
        simp only at hc0 hc1 hc2 hd0 hd1 hd2
        have hcs : ((x1 == y1) = true ∧ (x2 == y2) = true ∧ (x3 == y3) = true ∧ x1 = y1 ∧ x2 = y2 ∧ x3 = y3) ∨ ((x1 == y1) = false ∧ ¬ (x1 = y1 ∧ x2 = y2 ∧ x3 = y3) ∨ (x1 == y1) = true ∧ (x2 == y2) = false ∧ ¬ (x1 = y1 ∧ x2 = y2 ∧ x3 = y3) ∨ (x1 == y1) = true ∧ (x2 == y2) = true ∧ (x3 == y3) = false ∧ ¬ (x1 = y1 ∧ x2 = y2 ∧ x3 = y3)) := by
          by_cases h1 : x1 = y1 <;> by_cases h2 : x2 = y2 <;> by_cases h3 : x3 = y3 <;> simp [h1, h2, h3]
        rcases hcs with ⟨h1, h2, h3, e1, e2, e3⟩ | ⟨h1, hne⟩ | ⟨h1, h2, hne⟩ | ⟨h1, h2, h3, hne⟩
        · have HN := Lib.hid (HEQ.out (by rw [e1, e2, e3]))
          clear e1 e2 e3
          go_wp2_with fail
          go_quiet (fail)
          go_wp2_with fail
          go_roundw
          case rel => exact ⟨n + 1, by omega, by go_num, HN, below_drewN HB.out _⟩
          case measure => simp [intOf]; omega
        all_goals
          have HF := Lib.hid (HNE.out (by simpa using hne))
          clear hne
          go_wp2_with fail
          go_quiet (fail)
          go_wp2_with fail
          go_ret
          rw [HF.out]
          exact ⟨rfl, below_drewN HB.out _⟩
      · have hnn : n = l.length := by omega
        have HF : Hid (r = true) := Lib.hid (by
          rw [← HR.out]
          have := htk.out
          rw [hnn, List.take_length, HLEN.out, List.take_length] at this
          simpa using this)
        clear hnn
        go_wp2_with fail
        go_ret
        rw [HF.out]
        exact ⟨rfl, HB.out⟩
  · have hq : ((l.length : Int) != (m.length : Int)) = true := by simp; omega
    have HF : Hid (r = false) := Lib.hid (by rw [← HR.out]; simp; intro h; exact hlen (by rw [h]))
    clear hlen
    go_enter Try.func60, Try.ntmps60
    go_wp2_with fail
    go_ret
    rw [HF.out]
    exact ⟨rfl, Below.refl _ _⟩

def sameJ (a b : Jn) : Bool := a.id == b.id && (a.en == b.en && (a.pe == b.pe && (a.ref.toList == b.ref.toList && (a.void == b.void && decide (a.lines = b.lines)))))
theorem same_cases {a b : Jn} {r : Bool} (h : sameJ a b = r) :
    (r = false ∧ ((a.id == b.id) = false ∨ (a.id == b.id) = true ∧ ((a.en == b.en) = false ∨ (a.en == b.en) = true ∧ ((a.pe == b.pe) = false ∨ (a.pe == b.pe) = true ∧ ((a.ref.toList == b.ref.toList) = false ∨ (a.ref.toList == b.ref.toList) = true ∧ (a.void == b.void) = false))))) ∨
    ((a.id == b.id) = true ∧ (a.en == b.en) = true ∧ (a.pe == b.pe) = true ∧ (a.ref.toList == b.ref.toList) = true ∧ (a.void == b.void) = true ∧ decide (a.lines = b.lines) = r) := by
  subst h
  unfold sameJ
  cases a.id == b.id <;> cases a.en == b.en <;> cases a.pe == b.pe <;> cases a.ref.toList == b.ref.toList <;> cases a.void == b.void <;> simp

set_option maxHeartbeats 4000000 in
set_option maxRecDepth 100000 in
theorem esame_any (a b : Jn) (aa ba : Option Addr) (ac bc : Nat) (w : World) {F G : Nat → Prop} (hs : Sl tLn w F aa a.lines) (ht : Sl tLn w G ba b.lines) (hl : a.lines.length ≤ maxLen) (hm : b.lines.length ≤ maxLen) {r : Bool} (hr : sameJ a b = r) :
    Calls Try.prog 46 #[jnv a aa ac, jnv b ba bc] w fun e w' => e = .returned (.bool r) ∧ Below w.heap.size w w' := by
  have hcs := same_cases hr
  clear hr
  obtain ⟨i1, i2, i3, i4, i5, i6⟩ := a
  obtain ⟨x1, x2, x3, x4, x5, x6⟩ := b
  simp only at hs ht hl hm hcs
  have HB := Lib.hid (((Below.refl w.heap.size w).alloc (Nat.le_refl _) (.cells #[.int .i64 i1, .int .i64 i2, .int .i64 i3, .string i4, .slice aa i5.length ac, .bool i6] 31)).alloc (by simp) (.cells #[.int .i64 x1, .int .i64 x2, .int .i64 x3, .string x4, .slice ba x5.length bc, .bool x6] 31))
  rcases hcs with ⟨rfl, h1 | ⟨h1, h2 | ⟨h2, h3 | ⟨h3, h4 | ⟨h4, h5⟩⟩⟩⟩⟩ | ⟨h1, h2, h3, h4, h5, h6⟩
  iterate 5
    clear hs ht
    go_enter Try.func46, Try.ntmps46
    go_wp2_with fail
    go_ret
    exact ⟨rfl, HB.out⟩
  have HC := Lib.hid (eqL_any i5 x5 aa ba ac bc ((w.alloc (.cells #[.int .i64 i1, .int .i64 i2, .int .i64 i3, .string i4, .slice aa i5.length ac, .bool i6] 31)).alloc (.cells #[.int .i64 x1, .int .i64 x2, .int .i64 x3, .string x4, .slice ba x5.length bc, .bool x6] 31))
    (Sl.keep (fun k hk _ => (Below.heap_alloc _ _ k (by simp; omega)).trans (Below.heap_alloc w _ k hk)) hs) (Sl.keep (fun k hk _ => (Below.heap_alloc _ _ k (by simp; omega)).trans (Below.heap_alloc w _ k hk)) ht) hl hm h6)
  clear hs ht hl hm h6
  go_enter Try.func46, Try.ntmps46
  go_wp2_with fail
  refine HC.out.mono ?_
  rintro en w2 ⟨rfl, hb⟩
  have HB2 := Lib.hid (belows_then HB.out (by simp; omega) hb)
  clear hb
  go_wp2_with fail
  go_ret
  exact ⟨rfl, HB2.out⟩
end Go.Proofs.Ytogikjnfmcfbmaa
