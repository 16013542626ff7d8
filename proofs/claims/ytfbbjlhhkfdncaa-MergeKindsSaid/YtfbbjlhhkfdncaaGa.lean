/- Contracts of the package gates. -/
import Derived.Test.YtfbbjlhhkfdncaaK
set_option linter.unusedVariables false
set_option linter.unusedSimpArgs false
namespace Go.Proofs.Ytfbbjlhhkfdncaa
open Go.RowKit Go.Maps

abbrev I64 (n : Int) : Prop := (Lit.int .i64 n).wf = true
theorem i64_bd {n : Int} (h : I64 n) : -9223372036854775808 ≤ n ∧ n ≤ 9223372036854775807 := by
  unfold I64 Lit.wf at h
  simp [IntKind.min, IntKind.max, IntKind.bits, IntKind.signed] at h
  omega

def monthOk (m : Int) : Bool := decide (0 ≤ m) && decide (m ≤ 1199)

theorem month_valid (m : Int) (w : World) : Calls Try.prog 132 #[.int .i64 m] w fun e w' => e = .returned (.bool (monthOk m)) ∧ Below w.heap.size w w' := by
  go_enter Try.func132, Try.ntmps132
  go_wp2
  all_goals (refine bodyPost_ret (v := _) (by simp [results, Try.results132, go_sem, *] <;> rfl) rfl ?_)
  all_goals (refine ⟨?_, ?_⟩)
  any_goals (repeat (first | (with_reducible exact Below.refl _ _) | (with_reducible refine Below.setCell ?_ ?hle _; (case hle => first | omega | (simp <;> omega))) | (with_reducible refine Below.alloc ?_ ?hle _; (case hle => first | omega | (simp <;> omega))) | (with_reducible refine Below.drew ?_) | (with_reducible refine below_drewN ?_ _) | (with_reducible refine belows_then ?_ ?hle hb; (case hle => first | omega | (simp <;> omega)))))
  all_goals (first | (simp [monthOk, *]; done) | (simp [monthOk] at *; grind) | (simp_all [monthOk]; done))

theorem ref_valid (m : Int) (w : World) : Calls Try.prog 63 #[.int .i64 m] w fun e w' => e = .returned (.bool (monthOk m)) ∧ Below w.heap.size w w' := by
  go_enter Try.func63, Try.ntmps63
  go_wp2
  all_goals (refine bodyPost_ret (v := _) (by simp [results, Try.results63, go_sem, *] <;> rfl) rfl ?_)
  all_goals (refine ⟨?_, ?_⟩)
  any_goals (repeat (first | (with_reducible exact Below.refl _ _) | (with_reducible refine Below.setCell ?_ ?hle _; (case hle => first | omega | (simp <;> omega))) | (with_reducible refine Below.alloc ?_ ?hle _; (case hle => first | omega | (simp <;> omega))) | (with_reducible refine Below.drew ?_) | (with_reducible refine below_drewN ?_ _) | (with_reducible refine belows_then ?_ ?hle hb; (case hle => first | omega | (simp <;> omega)))))
  all_goals (first | (simp [monthOk, *]; done) | (simp [monthOk] at *; grind) | (simp_all [monthOk]; done))

def tInt : Ty Try.prog 3 Int := Ty.int _ 3 .i64 Try.underlying3 (by kernel_rfl)
theorem int_at {w : World} {F : Nat → Prop} {a : Option Addr} {l : List Int} (h : Sl tInt w F a l) (i : Nat) (hi : i < l.length) :
    ∃ ad, a = some ad ∧ ad.block < w.heap.size ∧ w.cell? (ad.add i) = some (.int .i64 l[i]) := by
  obtain ⟨ad, ces, rfl, _, hlt, hc, hr⟩ := h i l[i] (List.getElem?_eq_getElem hi)
  obtain ⟨rfl, _⟩ := hr
  have hn : tInt.n = 1 := rfl
  rw [hn] at hc
  refine ⟨ad, rfl, hlt, ?_⟩
  have := hc 0 _ rfl
  rw [Nat.mul_one] at this
  simpa [Addr.add] using this

theorem all_take_succ {α : Type} (p : α → Bool) (l : List α) (n : Nat) (hn : n < l.length) : (l.take (n + 1)).all p = ((l.take n).all p && p l[n]) := by
  rw [List.take_succ_eq_append_getElem hn, List.all_append]; simp

set_option maxHeartbeats 1000000 in
theorem term_valid (a : Option Addr) (cap : Nat) (l : List Int) (w : World) (hl : l.length ≤ 140737488351232) {F : Nat → Prop} (hs : Sl tInt w F a l) :
    Calls Try.prog 105 #[.slice a l.length cap] w fun e w' => e = .returned (.bool (l.all monthOk)) ∧ Below w.heap.size w w' := by
  have HL := Lib.hid hs
  clear hs
  go_enter Try.func105, Try.ntmps105
  go_wp2_with fail
  go_loopw [7] (fun vi wr => ∃ n : Nat, n ≤ l.length ∧ vi = .int .i64 n ∧ Hid ((l.take n).all monthOk = true) ∧ Below w.heap.size w wr) (fun vi _ => l.length - (intOf vi).toNat)
  case atStart => exact ⟨0, Nat.zero_le _, rfl, rfl, Below.refl _ _⟩
  case round =>
    obtain ⟨n, hn, rfl, hall, hB⟩ := hrel
    have HB := Lib.hid hB
    by_cases hlt : n < l.length
    · obtain ⟨ad, rfl, hadl, hc0⟩ := int_at (HL.out.keep fun k hk _ => hB.block k hk) n hlt
      clear hB
      go_wp2_with fail
      refine (month_valid _ _).mono ?_
      rintro e w1 ⟨rfl, hb⟩
      have HB1 := Lib.hid (belows_then HB.out HB.out.size hb)
      clear hb
      by_cases hv : monthOk l[n] = true
      · go_wp2_with fail
        go_roundw
        case rel => exact ⟨n + 1, by omega, by go_num, by show _ = _; rw [all_take_succ _ _ _ hlt, hall.out, hv]; rfl, HB1.out⟩
        case measure => simp [intOf]; omega
      · have hv' : monthOk l[n] = false := by simpa using hv
        clear hv
        go_wp2_with fail
        go_ret
        refine ⟨?_, HB1.out⟩
        have : l.all monthOk = false := by
          rw [List.all_eq_false]
          exact ⟨l[n], List.getElem_mem hlt, by simp [hv']⟩
        rw [this]; rfl
    · clear hB
      go_wp2_with fail
      go_ret
      refine ⟨?_, HB.out⟩
      have : l.all monthOk = true := by
        have := hall.out
        rwa [List.take_of_length_le (by omega)] at this
      rw [this]; rfl

def placeOk (e p : Int) : Bool := decide (1 ≤ e) && decide (e ≤ 9) && monthOk p
theorem sl_one (m : Int) (b : Nat) (w : World) (hm : w.heap[b]? = some (.cells #[.int .i64 m] 3 (0, 0))) (hw : (Lit.int .i64 m).wf = true) : Sl tInt w (fun _ => True) (some ⟨b, 0, none⟩) [m] := by
  intro i x hx
  have hi : i = 0 := by have := (List.getElem?_eq_some_iff.1 hx).1; simp at this; exact this
  subst hi
  simp at hx
  subst hx
  refine ⟨⟨b, 0, none⟩, [.int .i64 m], rfl, trivial, blk_lt hm, fun j v hj => ?_, rfl, hw⟩
  have hj0 : j = 0 := by have := (List.getElem?_eq_some_iff.1 hj).1; simp at this; exact this
  subst hj0
  simp at hj
  subst hj
  have := blk_cells hm 0
  simpa [Addr.add] using this

theorem term_valid1 (m : Int) (b : Nat) (w : World) (hm : w.heap[b]? = some (.cells #[.int .i64 m] 3 (0, 0))) (hw : (Lit.int .i64 m).wf = true) :
    Calls Try.prog 105 #[.slice (some ⟨b, 0, none⟩) 1 1] w fun e w' => e = .returned (.bool (monthOk m)) ∧ Below w.heap.size w w' := by
  have h := term_valid (some ⟨b, 0, none⟩) 1 [m] w (by simp only [List.length_cons, List.length_nil]; omega) (sl_one m b w hm hw)
  have e1 : [m].all monthOk = monthOk m := by simp
  rw [e1] at h
  exact h

def mayB (was to : Int) : Bool := was != 2 && (to != 2 || was == 1)
theorem laidOut : laidOutB Try.prog = true := by kernel_rfl
end Go.Proofs.Ytfbbjlhhkfdncaa
