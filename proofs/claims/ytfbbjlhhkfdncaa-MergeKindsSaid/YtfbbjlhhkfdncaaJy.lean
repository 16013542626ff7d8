/- The document's Taken. -/
import Derived.Test.YtfbbjlhhkfdncaaJx
set_option linter.unusedVariables false
set_option linter.unusedSimpArgs false
namespace Go.Proofs.Ytfbbjlhhkfdncaa
open Go.RowKit Go.Maps

def clash (j x : Jn) : Bool := x.id != j.id && (!x.void && (x.ref.toList == j.ref.toList && x.en == j.en))
def takenJ (l : List Jn) (j : Jn) : Bool := !j.ref.toList.isEmpty && (!j.void && l.any (clash j))
theorem clash_cases {j x : Jn} {b : Bool} (h : clash j x = b) : (b = false ∧ ((x.id != j.id) = false ∨ (x.id != j.id) = true ∧ (x.void = true ∨ x.void = false ∧ ((x.ref.toList == j.ref.toList) = false ∨ (x.ref.toList == j.ref.toList) = true ∧ (x.en == j.en) = false)))) ∨
    (b = true ∧ (x.id != j.id) = true ∧ x.void = false ∧ (x.ref.toList == j.ref.toList) = true ∧ (x.en == j.en) = true) := by
  subst h
  unfold clash
  cases x.id != j.id <;> cases x.void <;> cases x.ref.toList == j.ref.toList <;> cases x.en == j.en <;> simp

set_option maxHeartbeats 4000000 in
set_option maxRecDepth 100000 in
theorem rtaken_any (l : List Jn) (a : Option Addr) (cap : Nat) (j : Jn) (ja : Option Addr) (jc : Nat) (w : World) {F : Nat → Prop} (hs : Sl tJn w F a l) (hl : l.length ≤ maxLen) :
    Calls Try.prog 77 #[.slice a l.length cap, jnv j ja jc] w fun e w' => e = .returned (.bool (takenJ l j)) ∧ Below w.heap.size w w' := by
  have HS := Lib.hid hs
  have hl' : l.length ≤ 9223372036854775807 := by unfold maxLen at hl; omega
  clear hs hl
  obtain ⟨id, en, pe, ref, lines, void⟩ := j
  generalize htk : takenJ l ⟨id, en, pe, ref, lines, void⟩ = res
  have HT := Lib.hid htk
  clear htk
  have HB := Lib.hid ((Below.refl w.heap.size w).alloc (Nat.le_refl _) (.cells #[.int .i64 id, .int .i64 en, .int .i64 pe, .string ref, .slice ja lines.length jc, .bool void] 31))
  have HZ := Lib.hid (blk_new w (.cells #[.int .i64 id, .int .i64 en, .int .i64 pe, .string ref, .slice ja lines.length jc, .bool void] 31))
  have hact : (ref.toList.isEmpty = true ∨ ref.toList.isEmpty = false ∧ (void = true ∨ void = false)) := by
    cases ref.toList.isEmpty <;> cases void <;> simp
  go_enter Try.func77, Try.ntmps77
  go_wp2_with fail
  go_loopw [5] (fun vi wr => ∃ n : Nat, n ≤ l.length ∧ vi = .int .i64 n ∧ Hid ((l.take n).any (clash ⟨id, en, pe, ref, lines, void⟩) = false) ∧ Below w.heap.size w wr ∧ wr.heap[w.heap.size]? = some (.cells #[.int .i64 id, .int .i64 en, .int .i64 pe, .string ref, .slice ja lines.length jc, .bool void] 31 (0, 0))) (fun vi _ => l.length - (intOf vi).toNat)
  case atStart => exact ⟨0, Nat.zero_le _, rfl, rfl, HB.out, HZ.out⟩
  case round =>
    obtain ⟨n, hn, rfl, hany, hb1, hz1⟩ := hrel
    have HB1 := Lib.hid hb1
    have HZ1 := Lib.hid hz1
    clear hb1 hz1
    have hz := blk_cells HZ1.out
    have hzl := blk_lt HZ1.out
    by_cases hlt : n < l.length
    · rcases hact with h1 | ⟨h1, rfl | rfl⟩
      · have hr : res = false := by rw [← HT.out]; simp only [takenJ, h1, Bool.not_true, Bool.false_and]
        have HR := Lib.hid hr
        clear hr
        go_wp2_with fail
        go_ret
        rw [HR.out]
        exact ⟨rfl, HB1.out⟩
      · have hr : res = false := by rw [← HT.out]; simp [takenJ]
        have HR := Lib.hid hr
        clear hr
        go_wp2_with fail
        go_ret
        rw [HR.out]
        exact ⟨rfl, HB1.out⟩
      · obtain ⟨ad, la, lc, rfl, _, hadl, hc0, hc1, hc2, hc3, hc4, hc5, hr⟩ := jn_at (HS.out.keep fun k hk _ => HB1.out.block k hk) n hlt
        clear hr
        cases hv : clash ⟨id, en, pe, ref, lines, false⟩ l[n]
        · have hnext := (any_take_succ (clash ⟨id, en, pe, ref, lines, false⟩) l n hlt).trans (by rw [hany.out, hv]; try rfl)
          have HN := Lib.hid hnext
          have hcl := clash_cases hv
          simp only [true_and, Bool.false_eq_true, false_and, or_false] at hcl
          clear hnext hv
          generalize hvoid : l[n].void = xv at hc5 hcl
          clear hvoid
          rcases hcl with h2 | ⟨h2, rfl | ⟨rfl, h4 | ⟨h4, h5⟩⟩⟩
          all_goals
            go_wp2_with fail
            go_quiet (fail)
            go_wp2_with fail
            go_roundw
            case rel => exact ⟨n + 1, by omega, by go_num, HN.out, below_drewN HB1.out _, blk_drew HZ1.out _⟩
            case measure => simp [intOf]; omega
        · have hr : res = true := by
            rw [← HT.out]
            simp only [takenJ, h1, Bool.not_false, Bool.true_and]
            exact any_at _ l n hlt hv
          have HR := Lib.hid hr
          have hcl := clash_cases hv
          simp only [Bool.true_eq_false, false_and, true_and, false_or] at hcl
          clear hr hv
          obtain ⟨h2, h3, h4, h5⟩ := hcl
          rw [h3] at hc5
          go_wp2_with fail
          go_quiet (fail)
          go_wp2_with fail
          go_ret
          rw [HR.out]
          exact ⟨rfl, below_drewN HB1.out _⟩
    · have hno : l.any (clash ⟨id, en, pe, ref, lines, void⟩) = false := by
        have := hany.out
        rwa [take_all hn hlt] at this
      have hr : res = false := by rw [← HT.out]; simp only [takenJ, hno, Bool.and_false]
      have HR := Lib.hid hr
      clear hr hno
      go_wp2_with fail
      go_ret
      rw [HR.out]
      exact ⟨rfl, HB1.out⟩
end Go.Proofs.Ytfbbjlhhkfdncaa
