/- Contracts of the package assent: what each method of a paper returns, and that nothing that was there has turned. -/
import Derived.Test.YtahajbejbijkpaaA
set_option linter.unusedVariables false
set_option linter.unusedSimpArgs false
namespace Go.Proofs.Ytahajbejbijkpaa
open Go.RowKit

structure Pap where
  st : Int
  co : Int
  by' : ByteArray
  au : ByteArray

def Pap.val (p : Pap) : Value := .agg #[.int .i64 p.st, .int .i64 p.co, .string p.by', .string p.au]

def Pap.zero : Pap := ⟨0, 0, ByteArray.empty, ByteArray.empty⟩

def Pap.submit (p : Pap) (c : Int) (a : ByteArray) : Pap × Int :=
  if p.st == 1 || p.st == 2 then (p, 11) else if decide (c < 1) || a.toList.isEmpty then (p, 1) else (⟨1, c, ⟨#[]⟩, a⟩, 0)

def Pap.decide (p : Pap) (e : Int) (u : ByteArray) (s : Int) : Pap × Int :=
  if u.toList.isEmpty then (p, 1) else if p.st != 1 then (p, 11) else if e != 0 then (p, e) else (⟨s, p.co, u, p.au⟩, 0)

def Pap.other (p : Pap) (u : ByteArray) : Int := if u.toList == p.au.toList then 10 else 0

def Pap.approve (p : Pap) (u : ByteArray) : Pap × Int := p.decide (p.other u) u 2

def Pap.reject (p : Pap) (u : ByteArray) : Pap × Int := p.decide 0 u 3

def Pap.holds (p : Pap) (c : Int) : Int := if p.st != 2 then 11 else if p.co != c then 16 else 0

def PapRet (r : Pap × Int) (w : World) (e : Ending) (w' : World) : Prop :=
  e = .returned (.tuple #[.agg #[.int .i64 r.1.st, .int .i64 r.1.co, .string r.1.by', .string r.1.au], .int .i64 r.2]) ∧ Below w.heap.size w w'


theorem bcell {W w1 : World} (hb : Below W.heap.size W w1) : (∀ b o, b < W.heap.size → w1.cell? ⟨b, o, none⟩ = W.cell? ⟨b, o, none⟩) ∧ (∀ b o, b < W.heap.size → w1.frozen? ⟨b, o, none⟩ = W.frozen? ⟨b, o, none⟩) :=
  ⟨fun b o h => hb.cell (p := ⟨b, o, none⟩) h, fun b o h => hb.frozen (p := ⟨b, o, none⟩) h⟩

theorem belows_then {B : Nat} {w w1 w2 : World} (h : Below B w w1) (hB : B ≤ w1.heap.size) (k : Below w1.heap.size w1 w2) : Below B w w2 := h.trans (k.mono hB)
theorem below_drewN {B : Nat} {a w : World} (h : Below B a w) (n : Nat) : Below B a (w.drewN n) := ⟨h.os, h.tape, h.output, h.size, h.block⟩

set_option maxHeartbeats 1000000 in
theorem submit_any (st co : Int) (b a : ByteArray) (c : Int) (u : ByteArray) (w : World) (hu : u.size ≤ 281474976710656) :
    Calls Try.prog 7 #[.agg #[.int .i64 st, .int .i64 co, .string b, .string a], .int .i64 c, .string u] w (PapRet (Pap.submit ⟨st, co, b, a⟩ c u) w) := by
  go_enter Try.func7, Try.ntmps7
  go_wp2_with (go_at_call 17; refine (clone _ _ hu).mono ?_; rintro e w1 ⟨rfl, hb⟩; obtain ⟨hchb, hfhb⟩ := bcell hb; have hzhb := (hb).size; simp at hzhb)
  all_goals (refine bodyPost_ret (v := _) (by simp [results, Try.results7, go_sem, *] <;> rfl) rfl ?_)
  all_goals (refine ⟨?_, ?_⟩)
  any_goals (repeat (first | (with_reducible exact Below.refl _ _) | (with_reducible refine Below.setCell ?_ ?hle _; (case hle => first | omega | (simp <;> omega))) | (with_reducible refine Below.alloc ?_ ?hle _; (case hle => first | omega | (simp <;> omega))) | (with_reducible refine Below.drew ?_) | (with_reducible refine below_drewN ?_ _) | (with_reducible refine belows_then ?_ ?hle hb; (case hle => first | omega | (simp <;> omega)))))
  all_goals (first | (simp [Pap.submit, Pap.val, *]; done) | (simp [Pap.submit, Pap.val] at *; grind) | (simp_all [Pap.submit, Pap.val]; done))

theorem other_any (st co : Int) (b a u : ByteArray) (w : World) :
    Calls Try.prog 20 #[.agg #[.int .i64 st, .int .i64 co, .string b, .string a], .string u] w fun e w' => e = .returned (.int .i64 (Pap.other ⟨st, co, b, a⟩ u)) ∧ Below w.heap.size w w' := by
  go_enter Try.func20, Try.ntmps20
  go_wp2
  all_goals (refine bodyPost_ret (v := _) (by simp [results, Try.results20, go_sem, *] <;> rfl) rfl ?_)
  all_goals (refine ⟨?_, ?_⟩)
  any_goals (repeat (first | (with_reducible exact Below.refl _ _) | (with_reducible refine Below.setCell ?_ ?hle _; (case hle => first | omega | (simp <;> omega))) | (with_reducible refine Below.alloc ?_ ?hle _; (case hle => first | omega | (simp <;> omega))) | (with_reducible refine Below.drew ?_) | (with_reducible refine below_drewN ?_ _) | (with_reducible refine belows_then ?_ ?hle hb; (case hle => first | omega | (simp <;> omega)))))
  all_goals (first | (simp [Pap.other, *]; done) | (simp [Pap.other] at *; grind) | (simp_all [Pap.other]; done))

theorem anyone_any (st co : Int) (b a u : ByteArray) (w : World) :
    Calls Try.prog 19 #[.agg #[.int .i64 st, .int .i64 co, .string b, .string a], .string u] w fun e w' => e = .returned (.int .i64 0) ∧ Below w.heap.size w w' := by
  go_enter Try.func19, Try.ntmps19
  go_wp2
  all_goals (refine bodyPost_ret (v := _) (by simp [results, Try.results19, go_sem, *] <;> rfl) rfl ?_)
  all_goals (refine ⟨?_, ?_⟩)
  any_goals (repeat (first | (with_reducible exact Below.refl _ _) | (with_reducible refine Below.setCell ?_ ?hle _; (case hle => first | omega | (simp <;> omega))) | (with_reducible refine Below.alloc ?_ ?hle _; (case hle => first | omega | (simp <;> omega))) | (with_reducible refine Below.drew ?_) | (with_reducible refine below_drewN ?_ _) | (with_reducible refine belows_then ?_ ?hle hb; (case hle => first | omega | (simp <;> omega)))))
  all_goals (first | (simp [Pap.val, *]; done) | (simp [Pap.val] at *; grind) | (simp_all [Pap.val]; done))

theorem holds_any (st co : Int) (b a : ByteArray) (c : Int) (w : World) :
    Calls Try.prog 10 #[.agg #[.int .i64 st, .int .i64 co, .string b, .string a], .int .i64 c] w fun e w' => e = .returned (.int .i64 (Pap.holds ⟨st, co, b, a⟩ c)) ∧ Below w.heap.size w w' := by
  go_enter Try.func10, Try.ntmps10
  go_wp2
  all_goals (refine bodyPost_ret (v := _) (by simp [results, Try.results10, go_sem, *] <;> rfl) rfl ?_)
  all_goals (refine ⟨?_, ?_⟩)
  any_goals (repeat (first | (with_reducible exact Below.refl _ _) | (with_reducible refine Below.setCell ?_ ?hle _; (case hle => first | omega | (simp <;> omega))) | (with_reducible refine Below.alloc ?_ ?hle _; (case hle => first | omega | (simp <;> omega))) | (with_reducible refine Below.drew ?_) | (with_reducible refine below_drewN ?_ _) | (with_reducible refine belows_then ?_ ?hle hb; (case hle => first | omega | (simp <;> omega)))))
  all_goals (first | (simp [Pap.holds, *]; done) | (simp [Pap.holds] at *; grind) | (simp_all [Pap.holds]; done))

set_option maxHeartbeats 1000000 in
theorem decide19 (st co : Int) (b a : ByteArray) (u : ByteArray) (s : Int) (w : World) (hu : u.size ≤ 281474976710656) :
    Calls Try.prog 18 #[.agg #[.int .i64 st, .int .i64 co, .string b, .string a], .func (.func 19) #[] #[], .string u, .int .i64 s] w (PapRet (Pap.decide ⟨st, co, b, a⟩ 0 u s) w) := by
  go_enter Try.func18, Try.ntmps18
  go_wp2_with (first | (go_at_call 17; refine (clone _ _ hu).mono ?_; rintro e w2 ⟨rfl, hb⟩; obtain ⟨hchb, hfhb⟩ := bcell hb; have hzhb := (hb).size; simp at hzhb; have : w.heap.size + 1 < (w2).heap.size := (by omega); have : w.heap.size < (w2).heap.size := (by omega); have : w.heap.size + 1 < (w1).heap.size := (by omega); have : w.heap.size < (w1).heap.size := (by omega)) | (go_at_call 19; refine (anyone_any _ _ _ _ _ _).mono ?_; rintro e w1 ⟨rfl, ha⟩; obtain ⟨hcha, hfha⟩ := bcell ha; have hzha := (ha).size; simp at hzha))
  all_goals (refine bodyPost_ret (v := _) (by simp [results, Try.results18, go_sem, *] <;> rfl) rfl ?_)
  all_goals (refine ⟨?_, ?_⟩)
  any_goals (repeat (first | (with_reducible exact Below.refl _ _) | (with_reducible refine Below.setCell ?_ ?hle _; (case hle => first | omega | (simp <;> omega))) | (with_reducible refine Below.alloc ?_ ?hle _; (case hle => first | omega | (simp <;> omega))) | (with_reducible refine Below.drew ?_) | (with_reducible refine below_drewN ?_ _) | (with_reducible refine belows_then ?_ ?hle (by first | exact hb | exact ha); (case hle => first | omega | (simp <;> omega)))))
  all_goals (first | (simp [Pap.decide, Pap.val, *]; done) | (simp [Pap.decide, Pap.val] at *; grind) | (simp_all [Pap.decide, Pap.val]; done))

set_option maxHeartbeats 1000000 in
theorem decide20 (st co : Int) (b a : ByteArray) (u : ByteArray) (s : Int) (w : World) (hu : u.size ≤ 281474976710656) :
    Calls Try.prog 18 #[.agg #[.int .i64 st, .int .i64 co, .string b, .string a], .func (.func 20) #[] #[], .string u, .int .i64 s] w (PapRet (Pap.decide ⟨st, co, b, a⟩ (Pap.other ⟨st, co, b, a⟩ u) u s) w) := by
  go_enter Try.func18, Try.ntmps18
  go_wp2_with (first | (go_at_call 17; refine (clone _ _ hu).mono ?_; rintro e w2 ⟨rfl, hb⟩; obtain ⟨hchb, hfhb⟩ := bcell hb; have hzhb := (hb).size; simp at hzhb; have : w.heap.size + 1 < (w2).heap.size := (by omega); have : w.heap.size < (w2).heap.size := (by omega); have : w.heap.size + 1 < (w1).heap.size := (by omega); have : w.heap.size < (w1).heap.size := (by omega)) | (go_at_call 20; refine (other_any _ _ _ _ _ _).mono ?_; rintro e w1 ⟨rfl, ha⟩; obtain ⟨hcha, hfha⟩ := bcell ha; have hzha := (ha).size; simp at hzha))
  all_goals (refine bodyPost_ret (v := _) (by simp [results, Try.results18, go_sem, *] <;> rfl) rfl ?_)
  all_goals (refine ⟨?_, ?_⟩)
  any_goals (repeat (first | (with_reducible exact Below.refl _ _) | (with_reducible refine Below.setCell ?_ ?hle _; (case hle => first | omega | (simp <;> omega))) | (with_reducible refine Below.alloc ?_ ?hle _; (case hle => first | omega | (simp <;> omega))) | (with_reducible refine Below.drew ?_) | (with_reducible refine below_drewN ?_ _) | (with_reducible refine belows_then ?_ ?hle (by first | exact hb | exact ha); (case hle => first | omega | (simp <;> omega)))))
  all_goals (first | (simp [Pap.decide, Pap.val, *]; done) | (simp [Pap.decide, Pap.val] at *; grind) | (simp_all [Pap.decide, Pap.val]; done))

end Go.Proofs.Ytahajbejbijkpaa
