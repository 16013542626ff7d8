/- variorumbook: SameBalances, SamePairs. -/
import Derived.Test.YtacemlbfifhllaaGreatX17GatesPlay
set_option linter.unusedVariables false
set_option linter.unusedSimpArgs false
namespace Go.Proofs.YtacemlbfifhllaaGreat
open Go.RowKit Go.Maps

theorem take_eq_succ {α : Type} {a b : List α} {n : Nat} (h : a.take n = b.take n) (h1 : n < a.length) (h2 : n < b.length) (he : a[n] = b[n]) : a.take (n + 1) = b.take (n + 1) := by
  rw [List.take_succ_eq_append_getElem h1, List.take_succ_eq_append_getElem h2, h, he]
theorem ne_at {α : Type} {a b : List α} {n : Nat} (h1 : n < a.length) (h2 : n < b.length) (he : a[n] ≠ b[n]) : a ≠ b := by
  rintro rfl
  exact he rfl

set_option maxHeartbeats 4000000 in
set_option maxRecDepth 100000 in
theorem sameBal_any (l m : List (Int × Int)) (a b : Option Addr) (ca cb : Nat) (w : World) {F G : Nat → Prop} (hs : Sl tBal w F a l) (ht : Sl tBal w G b m) (hl : l.length ≤ maxLen) (hm : m.length ≤ maxLen) {r : Bool} (hr : decide (l = m) = r) :
    Calls Tryz.prog 73 #[.slice a l.length ca, .slice b m.length cb] w fun e w' => e = .returned (.bool r) ∧ Below w.heap.size w w' := by
  have HS := Lib.hid hs
  have HT := Lib.hid ht
  have HR := Lib.hid hr
  have hl' : l.length ≤ 9223372036854775807 := by unfold maxLen at hl; omega
  have hm' : m.length ≤ 9223372036854775807 := by unfold maxLen at hm; omega
  clear hs ht hl hm hr
  by_cases hlen : l.length = m.length
  · have hle : l.length ≤ m.length := by omega
    have hge : m.length ≤ l.length := by omega
    have hq : ((l.length : Int) != (m.length : Int)) = false := by simp [hlen]
    have HLEN := Lib.hid hlen
    clear hlen
    go_enter Tryz.func73, Tryz.ntmps73
    go_wp2_with fail
    go_loopw [5] (fun vi wr => ∃ n : Nat, n ≤ l.length ∧ vi = .int .i64 n ∧ Hid (l.take n = m.take n) ∧ Below w.heap.size w wr) (fun vi _ => l.length - (Go.RowKit.intOf vi).toNat)
    case atStart => exact ⟨0, Nat.zero_le _, rfl, Lib.hid rfl, Below.refl _ _⟩
    case round =>
      obtain ⟨n, hn, rfl, htk, hb⟩ := hrel
      have HB := Lib.hid hb
      clear hb
      by_cases hlt : n < l.length
      · have hlt2 : n < m.length := by omega
        obtain ⟨ad, rfl, _, hadl, hc0, hc1, _, _⟩ := bal_at (Sl.keep (fun k hk _ => HB.out.block k hk) HS.out) n hlt
        obtain ⟨bd, rfl, _, hbdl, hd0, hd1, _, _⟩ := bal_at (Sl.keep (fun k hk _ => HB.out.block k hk) HT.out) n hlt2
        have HEQ : Hid (l[n] = m[n] → l.take (n + 1) = m.take (n + 1)) := Lib.hid (fun h => take_eq_succ htk.out hlt hlt2 h)
        have HNE : Hid (l[n] ≠ m[n] → r = false) := Lib.hid (fun h => by rw [← HR.out]; simpa using ne_at hlt hlt2 h)
        generalize l[n] = x at *
        generalize m[n] = y at *
        obtain ⟨x1, x2⟩ := x
        obtain ⟨y1, y2⟩ := y
        simp only at hc0 hc1 hd0 hd1
        skip
        by_cases he1 : x1 = y1
        · by_cases he2 : x2 = y2
          · subst he1
            subst he2
            have HN := Lib.hid (HEQ.out rfl)
            have h1 : (x1 == x1) = true := by simp
            have h2 : (x2 == x2) = true := by simp
            go_wp2_with fail
            go_quiet (fail)
            go_wp2_with fail
            go_roundw
            case rel => exact ⟨n + 1, by omega, by go_num, HN, below_drewN HB.out _⟩
            case measure => simp [Go.RowKit.intOf]; omega
          · have HF := Lib.hid (HNE.out (by simp [he2]))
            have h1 : (x1 == y1) = true := by simpa using he1
            have h2 : (x2 == y2) = false := by simpa using he2
            clear he1 he2
            go_wp2_with fail
            go_quiet (fail)
            go_wp2_with fail
            go_ret
            rw [HF.out]
            exact ⟨rfl, below_drewN HB.out _⟩
        · have HF := Lib.hid (HNE.out (by simp [he1]))
          have h1 : (x1 == y1) = false := by simpa using he1
          clear he1
          go_wp2_with fail
          go_quiet (fail)
          go_wp2_with fail
          go_ret
          rw [HF.out]
          exact ⟨rfl, below_drewN HB.out _⟩
      · have hnn : n = l.length := by omega
        have HF : Hid (r = true) := Lib.hid (by
          rw [← HR.out]
          have := htk.out
          rw [hnn, List.take_length, HLEN.out, List.take_length] at this
          simpa using this)
        clear hnn
        go_wp2_with fail
        go_ret
        rw [HF.out]
        exact ⟨rfl, HB.out⟩
  · have hq : ((l.length : Int) != (m.length : Int)) = true := by simp; omega
    have HF : Hid (r = false) := Lib.hid (by rw [← HR.out]; simp; intro h; exact hlen (by rw [h]))
    clear hlen
    go_enter Tryz.func73, Tryz.ntmps73
    go_wp2_with fail
    go_ret
    rw [HF.out]
    exact ⟨rfl, Below.refl _ _⟩
set_option maxHeartbeats 4000000 in
set_option maxRecDepth 100000 in
theorem samePair_any (l m : List (Int × Int)) (a b : Option Addr) (ca cb : Nat) (w : World) {F G : Nat → Prop} (hs : Sl tPair w F a l) (ht : Sl tPair w G b m) (hl : l.length ≤ maxLen) (hm : m.length ≤ maxLen) {r : Bool} (hr : decide (l = m) = r) :
    Calls Tryz.prog 79 #[.slice a l.length ca, .slice b m.length cb] w fun e w' => e = .returned (.bool r) ∧ Below w.heap.size w w' := by
  have HS := Lib.hid hs
  have HT := Lib.hid ht
  have HR := Lib.hid hr
  have hl' : l.length ≤ 9223372036854775807 := by unfold maxLen at hl; omega
  have hm' : m.length ≤ 9223372036854775807 := by unfold maxLen at hm; omega
  clear hs ht hl hm hr
  by_cases hlen : l.length = m.length
  · have hle : l.length ≤ m.length := by omega
    have hge : m.length ≤ l.length := by omega
    have hq : ((l.length : Int) != (m.length : Int)) = false := by simp [hlen]
    have HLEN := Lib.hid hlen
    clear hlen
    go_enter Tryz.func79, Tryz.ntmps79
    go_wp2_with fail
    go_loopw [5] (fun vi wr => ∃ n : Nat, n ≤ l.length ∧ vi = .int .i64 n ∧ Hid (l.take n = m.take n) ∧ Below w.heap.size w wr) (fun vi _ => l.length - (Go.RowKit.intOf vi).toNat)
    case atStart => exact ⟨0, Nat.zero_le _, rfl, Lib.hid rfl, Below.refl _ _⟩
    case round =>
      obtain ⟨n, hn, rfl, htk, hb⟩ := hrel
      have HB := Lib.hid hb
      clear hb
      by_cases hlt : n < l.length
      · have hlt2 : n < m.length := by omega
        obtain ⟨ad, rfl, _, hadl, hc0, hc1, _, _⟩ := pair_at (Sl.keep (fun k hk _ => HB.out.block k hk) HS.out) n hlt
        obtain ⟨bd, rfl, _, hbdl, hd0, hd1, _, _⟩ := pair_at (Sl.keep (fun k hk _ => HB.out.block k hk) HT.out) n hlt2
        have HEQ : Hid (l[n] = m[n] → l.take (n + 1) = m.take (n + 1)) := Lib.hid (fun h => take_eq_succ htk.out hlt hlt2 h)
        have HNE : Hid (l[n] ≠ m[n] → r = false) := Lib.hid (fun h => by rw [← HR.out]; simpa using ne_at hlt hlt2 h)
        generalize l[n] = x at *
        generalize m[n] = y at *
        obtain ⟨x1, x2⟩ := x
        obtain ⟨y1, y2⟩ := y
        simp only at hc0 hc1 hd0 hd1
        have heq := fun W => eq_pair x1 x2 y1 y2 W
        by_cases he1 : x1 = y1
        · by_cases he2 : x2 = y2
          · subst he1
            subst he2
            have HN := Lib.hid (HEQ.out rfl)
            have h1 : (x1 == x1) = true := by simp
            have h2 : (x2 == x2) = true := by simp
            go_wp2_with fail
            go_quiet (fail)
            go_wp2_with fail
            go_roundw
            case rel => exact ⟨n + 1, by omega, by go_num, HN, below_drewN HB.out _⟩
            case measure => simp [Go.RowKit.intOf]; omega
          · have HF := Lib.hid (HNE.out (by simp [he2]))
            have h1 : (x1 == y1) = true := by simpa using he1
            have h2 : (x2 == y2) = false := by simpa using he2
            clear he1 he2
            go_wp2_with fail
            go_quiet (fail)
            go_wp2_with fail
            go_ret
            rw [HF.out]
            exact ⟨rfl, below_drewN HB.out _⟩
        · have HF := Lib.hid (HNE.out (by simp [he1]))
          have h1 : (x1 == y1) = false := by simpa using he1
          clear he1
          go_wp2_with fail
          go_quiet (fail)
          go_wp2_with fail
          go_ret
          rw [HF.out]
          exact ⟨rfl, below_drewN HB.out _⟩
      · have hnn : n = l.length := by omega
        have HF : Hid (r = true) := Lib.hid (by
          rw [← HR.out]
          have := htk.out
          rw [hnn, List.take_length, HLEN.out, List.take_length] at this
          simpa using this)
        clear hnn
        go_wp2_with fail
        go_ret
        rw [HF.out]
        exact ⟨rfl, HB.out⟩
  · have hq : ((l.length : Int) != (m.length : Int)) = true := by simp; omega
    have HF : Hid (r = false) := Lib.hid (by rw [← HR.out]; simp; intro h; exact hlen (by rw [h]))
    clear hlen
    go_enter Tryz.func79, Tryz.ntmps79
    go_wp2_with fail
    go_ret
    rw [HF.out]
    exact ⟨rfl, Below.refl _ _⟩
end Go.Proofs.YtacemlbfifhllaaGreat
