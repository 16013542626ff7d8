/- Contracts of the papers' methods, the program's and the document's: what each returns; nothing that was there has turned. -/
import Derived.Test.YtahajbejbijkpaaB
set_option linter.unusedVariables false
set_option linter.unusedSimpArgs false
namespace Go.Proofs.Ytahajbejbijkpaa
open Go.RowKit

theorem approve_any (st co : Int) (b a u : ByteArray) (w : World) (hu : u.size ≤ 281474976710656) :
    Calls Try.prog 9 #[.agg #[.int .i64 st, .int .i64 co, .string b, .string a], .string u] w (PapRet (Pap.approve ⟨st, co, b, a⟩ u) w) := by
  go_enter Try.func9, Try.ntmps9
  go_wp2_with (go_at_call 18; refine (decide20 _ _ _ _ _ _ _ hu).mono ?_; rintro e w1 ⟨rfl, hb⟩; obtain ⟨hchb, hfhb⟩ := bcell hb; have hzhb := (hb).size; simp at hzhb)
  all_goals (refine bodyPost_ret (v := _) (by simp [results, Try.results9, go_sem, *] <;> rfl) rfl ?_)
  all_goals (refine ⟨?_, ?_⟩)
  any_goals (repeat (first | (with_reducible exact Below.refl _ _) | (with_reducible refine Below.setCell ?_ ?hle _; (case hle => first | omega | (simp <;> omega))) | (with_reducible refine Below.alloc ?_ ?hle _; (case hle => first | omega | (simp <;> omega))) | (with_reducible refine Below.drew ?_) | (with_reducible refine below_drewN ?_ _) | (with_reducible refine belows_then ?_ ?hle hb; (case hle => first | omega | (simp <;> omega)))))
  all_goals (first | (simp [Pap.approve, Pap.val, *]; done) | (simp [Pap.approve, Pap.val] at *; grind) | (simp_all [Pap.approve, Pap.val]; done))

theorem reject_any (st co : Int) (b a u : ByteArray) (w : World) (hu : u.size ≤ 281474976710656) :
    Calls Try.prog 8 #[.agg #[.int .i64 st, .int .i64 co, .string b, .string a], .string u] w (PapRet (Pap.reject ⟨st, co, b, a⟩ u) w) := by
  go_enter Try.func8, Try.ntmps8
  go_wp2_with (go_at_call 18; refine (decide19 _ _ _ _ _ _ _ hu).mono ?_; rintro e w1 ⟨rfl, hb⟩; obtain ⟨hchb, hfhb⟩ := bcell hb; have hzhb := (hb).size; simp at hzhb)
  all_goals (refine bodyPost_ret (v := _) (by simp [results, Try.results8, go_sem, *] <;> rfl) rfl ?_)
  all_goals (refine ⟨?_, ?_⟩)
  any_goals (repeat (first | (with_reducible exact Below.refl _ _) | (with_reducible refine Below.setCell ?_ ?hle _; (case hle => first | omega | (simp <;> omega))) | (with_reducible refine Below.alloc ?_ ?hle _; (case hle => first | omega | (simp <;> omega))) | (with_reducible refine Below.drew ?_) | (with_reducible refine below_drewN ?_ _) | (with_reducible refine belows_then ?_ ?hle hb; (case hle => first | omega | (simp <;> omega)))))
  all_goals (first | (simp [Pap.reject, Pap.val, *]; done) | (simp [Pap.reject, Pap.val] at *; grind) | (simp_all [Pap.reject, Pap.val]; done))

theorem touch_any (st co : Int) (b a : ByteArray) (w : World) :
    Calls Try.prog 14 #[.agg #[.int .i64 st, .int .i64 co, .string b, .string a]] w fun e w' => e = .returned (.agg #[.int .i64 0, .int .i64 0, .string ⟨#[]⟩, .string ⟨#[]⟩]) ∧ Below w.heap.size w w' := by
  go_enter Try.func14, Try.ntmps14
  go_wp2
  all_goals (refine bodyPost_ret (v := _) (by simp [results, Try.results14, go_sem, *] <;> rfl) rfl ?_)
  all_goals (refine ⟨?_, ?_⟩)
  any_goals (repeat (first | (with_reducible exact Below.refl _ _) | (with_reducible refine Below.setCell ?_ ?hle _; (case hle => first | omega | (simp <;> omega))) | (with_reducible refine Below.alloc ?_ ?hle _; (case hle => first | omega | (simp <;> omega))) | (with_reducible refine Below.drew ?_) | (with_reducible refine below_drewN ?_ _) | (with_reducible refine belows_then ?_ ?hle hb; (case hle => first | omega | (simp <;> omega)))))
  all_goals (first | (simp [Pap.zero, Pap.val, *]; done) | (simp [Pap.zero, Pap.val] at *; grind) | (simp_all [Pap.zero, Pap.val]; done))

theorem rsubmit_any (st co : Int) (b a : ByteArray) (c : Int) (u : ByteArray) (w : World) :
    Calls Try.prog 11 #[.agg #[.int .i64 st, .int .i64 co, .string b, .string a], .int .i64 c, .string u] w (PapRet (Pap.submit ⟨st, co, b, a⟩ c u) w) := by
  go_enter Try.func11, Try.ntmps11
  go_wp2
  all_goals (refine bodyPost_ret (v := _) (by simp [results, Try.results11, go_sem, *] <;> rfl) rfl ?_)
  all_goals (refine ⟨?_, ?_⟩)
  any_goals (repeat (first | (with_reducible exact Below.refl _ _) | (with_reducible refine Below.setCell ?_ ?hle _; (case hle => first | omega | (simp <;> omega))) | (with_reducible refine Below.alloc ?_ ?hle _; (case hle => first | omega | (simp <;> omega))) | (with_reducible refine Below.drew ?_) | (with_reducible refine below_drewN ?_ _) | (with_reducible refine belows_then ?_ ?hle hb; (case hle => first | omega | (simp <;> omega)))))
  all_goals (first | (simp [Pap.submit, Pap.val, *]; done) | (simp [Pap.submit, Pap.val] at *; grind) | (simp_all [Pap.submit, Pap.val]; done))

theorem rapprove_any (st co : Int) (b a : ByteArray) (u : ByteArray) (w : World) :
    Calls Try.prog 12 #[.agg #[.int .i64 st, .int .i64 co, .string b, .string a], .string u] w (PapRet (Pap.approve ⟨st, co, b, a⟩ u) w) := by
  go_enter Try.func12, Try.ntmps12
  go_wp2
  all_goals (refine bodyPost_ret (v := _) (by simp [results, Try.results12, go_sem, *] <;> rfl) rfl ?_)
  all_goals (refine ⟨?_, ?_⟩)
  any_goals (repeat (first | (with_reducible exact Below.refl _ _) | (with_reducible refine Below.setCell ?_ ?hle _; (case hle => first | omega | (simp <;> omega))) | (with_reducible refine Below.alloc ?_ ?hle _; (case hle => first | omega | (simp <;> omega))) | (with_reducible refine Below.drew ?_) | (with_reducible refine below_drewN ?_ _) | (with_reducible refine belows_then ?_ ?hle hb; (case hle => first | omega | (simp <;> omega)))))
  all_goals (first | (simp [Pap.approve, Pap.decide, Pap.other, Pap.val, *]; done) | (simp [Pap.approve, Pap.decide, Pap.other, Pap.val] at *; grind) | (simp_all [Pap.approve, Pap.decide, Pap.other, Pap.val]; done))

theorem rreject_any (st co : Int) (b a : ByteArray) (u : ByteArray) (w : World) :
    Calls Try.prog 13 #[.agg #[.int .i64 st, .int .i64 co, .string b, .string a], .string u] w (PapRet (Pap.reject ⟨st, co, b, a⟩ u) w) := by
  go_enter Try.func13, Try.ntmps13
  go_wp2
  all_goals (refine bodyPost_ret (v := _) (by simp [results, Try.results13, go_sem, *] <;> rfl) rfl ?_)
  all_goals (refine ⟨?_, ?_⟩)
  any_goals (repeat (first | (with_reducible exact Below.refl _ _) | (with_reducible refine Below.setCell ?_ ?hle _; (case hle => first | omega | (simp <;> omega))) | (with_reducible refine Below.alloc ?_ ?hle _; (case hle => first | omega | (simp <;> omega))) | (with_reducible refine Below.drew ?_) | (with_reducible refine below_drewN ?_ _) | (with_reducible refine belows_then ?_ ?hle hb; (case hle => first | omega | (simp <;> omega)))))
  all_goals (first | (simp [Pap.reject, Pap.decide, Pap.val, *]; done) | (simp [Pap.reject, Pap.decide, Pap.val] at *; grind) | (simp_all [Pap.reject, Pap.decide, Pap.val]; done))

theorem rholds_any (st co : Int) (b a : ByteArray) (c : Int) (w : World) :
    Calls Try.prog 16 #[.agg #[.int .i64 st, .int .i64 co, .string b, .string a], .int .i64 c] w fun e w' => e = .returned (.int .i64 (Pap.holds ⟨st, co, b, a⟩ c)) ∧ Below w.heap.size w w' := by
  go_enter Try.func16, Try.ntmps16
  go_wp2
  all_goals (refine bodyPost_ret (v := _) (by simp [results, Try.results16, go_sem, *] <;> rfl) rfl ?_)
  all_goals (refine ⟨?_, ?_⟩)
  any_goals (repeat (first | (with_reducible exact Below.refl _ _) | (with_reducible refine Below.setCell ?_ ?hle _; (case hle => first | omega | (simp <;> omega))) | (with_reducible refine Below.alloc ?_ ?hle _; (case hle => first | omega | (simp <;> omega))) | (with_reducible refine Below.drew ?_) | (with_reducible refine below_drewN ?_ _) | (with_reducible refine belows_then ?_ ?hle hb; (case hle => first | omega | (simp <;> omega)))))
  all_goals (first | (simp [Pap.holds, *]; done) | (simp [Pap.holds] at *; grind) | (simp_all [Pap.holds]; done))

def Pap.same (p q : Pap) : Bool := p.st == q.st && p.co == q.co && p.by'.toList == q.by'.toList && p.au.toList == q.au.toList

set_option maxHeartbeats 1000000 in
theorem same_any (p q : Pap) (w : World) :
    Calls Try.prog 15 #[p.val, q.val] w fun e w' => e = .returned (.bool (p.same q)) ∧ Below w.heap.size w w' := by
  obtain ⟨st, co, b, a⟩ := p
  obtain ⟨st', co', b', a'⟩ := q
  simp only [Pap.val]
  go_enter Try.func15, Try.ntmps15
  go_wp2
  go_ways
  all_goals (refine bodyPost_ret (v := _) (by simp [results, Try.results15, go_sem, *] <;> rfl) rfl ?_)
  all_goals (refine ⟨?_, ?_⟩)
  any_goals (repeat (first | (with_reducible exact Below.refl _ _) | (with_reducible refine Below.setCell ?_ ?hle _; (case hle => first | omega | (simp <;> omega))) | (with_reducible refine Below.alloc ?_ ?hle _; (case hle => first | omega | (simp <;> omega))) | (with_reducible refine Below.drew ?_) | (with_reducible refine below_drewN ?_ _) | (with_reducible refine belows_then ?_ ?hle hb; (case hle => first | omega | (simp <;> omega)))))
  all_goals (first | (simp [Pap.same, *]; done) | (simp [Pap.same] at *; grind) | (simp_all [Pap.same]; done))
end Go.Proofs.Ytahajbejbijkpaa
