/- Small facts on blocks of a call's own: what a cell of it holds, that it is kept behind a call, a new block, a store. -/
import Derived.Test.YtacemlbfifhllaaGreatChecked
import Derived.Test.YtacemlbfifhllaaGreatX00GatesPlay
import Derived.Test.YtacemlbfifhllaaGreatX01GatesPlay
import Derived.Lib.Strings
import Derived.Lib.Walk
import Derived.Lib.BufferWrite
import Derived.Lib.Hide
import Derived.Laws.MakeOwn
import Derived.WalkKit
import Derived.KernelRfl
import Derived.Below
import Derived.Deep.QuietTactic
import Derived.BigQuiet
import Derived.Laws.Rows
import Derived.Deep.LoopGhost
import Derived.Deep.RegionHeld3
import Derived.StillTailTactics
import Derived.WalkSpells
set_option linter.unusedVariables false
set_option linter.unusedSimpArgs false
namespace Go.Proofs.YtacemlbfifhllaaGreat
open Go.RowKit

theorem bcell {W w1 : World} (hb : Below W.heap.size W w1) : (∀ b o, b < W.heap.size → w1.cell? ⟨b, o, none⟩ = W.cell? ⟨b, o, none⟩) ∧ (∀ b o, b < W.heap.size → w1.frozen? ⟨b, o, none⟩ = W.frozen? ⟨b, o, none⟩) :=
  ⟨fun b o h => hb.cell (p := ⟨b, o, none⟩) h, fun b o h => hb.frozen (p := ⟨b, o, none⟩) h⟩
theorem belows_then {B : Nat} {w w1 w2 : World} (h : Below B w w1) (hB : B ≤ w1.heap.size) (k : Below w1.heap.size w1 w2) : Below B w w2 := h.trans (k.mono hB)
theorem below_drewN {B : Nat} {a w : World} (h : Below B a w) (n : Nat) : Below B a (w.drewN n) := ⟨h.os, h.tape, h.output, h.size, h.block⟩

section
variable {w w1 : World} {g t : Nat} {cs : Array Value}
theorem blk_cells (h : w.heap[g]? = some (.cells cs t (0, 0))) : ∀ o, w.cell? ⟨g, o, none⟩ = cs[o]? := fun o => cell_of_row w g o cs t (0, 0) h
theorem blk_frz (h : w.heap[g]? = some (.cells cs t (0, 0))) : ∀ o, w.frozen? ⟨g, o, none⟩ = false := fun o => by simp [World.frozen?, h]
theorem blk_lt {o : Obj} (h : w.heap[g]? = some o) : g < w.heap.size := (Array.getElem?_eq_some_iff.1 h).1
theorem blk_new (w : World) (o : Obj) : (w.alloc o).heap[w.heap.size]? = some o := heap_alloc_new w o
theorem blk_alloc {o : Obj} (h : w.heap[g]? = some o) (o' : Obj) : (w.alloc o').heap[g]? = some o := (Below.heap_alloc w o' g (blk_lt h)).trans h
theorem blk_below {o : Obj} (h : w.heap[g]? = some o) (hb : Below w.heap.size w w1) : w1.heap[g]? = some o := (hb.block g (blk_lt h)).trans h
theorem blk_set (h : w.heap[g]? = some (.cells cs t (0, 0))) (i : Nat) (u : Value) : (w.setCell ⟨g, i, none⟩ u).heap[g]? = some (.cells (cs.setIfInBounds i u) t (0, 0)) := by
  simp [World.setCell, Array.getElem?_modify, h]
theorem blk_far {o : Obj} (h : w.heap[g]? = some o) {p : Addr} (hp : g ≠ p.block) (u : Value) : (w.setCell p u).heap[g]? = some o := (Below.heap_setCell w p u g hp).trans h
theorem blk_drew {o : Obj} (h : w.heap[g]? = some o) (n : Nat) : (w.drewN n).heap[g]? = some o := h
end
theorem still_tail {P : Program} {id : Nat} {Q : Exit → Act → World → Prop} {a : Act} {w : World} {l : List Oper} (n : Nat) (hm : P.follows .mixedOrders = true) (hB : Region.lexTailB .any l.toArray n = true)
    (h : wpStill P l.toArray w.drew (fun a' => wpList P l.toArray Q (l.drop n) a' w.drew) (l.take n) a) : (Code.region id l.toArray true).wp P Q a w := wp_region_still_tail n hm hB h
theorem abs_world {P : Program} {c : Code} {Q : Exit → Act → World → Prop} {a : Act} {W : World} {S : World → Prop} (h : ∀ wx, S wx → c.wp P Q a wx) (hs : S W) : c.wp P Q a W := h W hs
end Go.Proofs.YtacemlbfifhllaaGreat


/- Contracts of the package gates. -/
set_option linter.unusedVariables false
set_option linter.unusedSimpArgs false
namespace Go.Proofs.YtacemlbfifhllaaGreat
open Go.RowKit Go.Maps

abbrev I64 (n : Int) : Prop := (Lit.int .i64 n).wf = true
theorem i64_bd {n : Int} (h : I64 n) : -9223372036854775808 ≤ n ∧ n ≤ 9223372036854775807 := by
  unfold I64 Lit.wf at h
  simp [IntKind.min, IntKind.max, IntKind.bits, IntKind.signed] at h
  omega

def monthOk (m : Int) : Bool := decide (0 ≤ m) && decide (m ≤ 1199)

theorem month_valid (m : Int) (w : World) : Calls Tryz.prog 90 #[.int .i64 m] w fun e w' => e = .returned (.bool (monthOk m)) ∧ Below w.heap.size w w' := by
  go_enter Tryz.func90, Tryz.ntmps90
  go_wp2
  all_goals (refine bodyPost_ret (v := _) (by simp [results, Tryz.results90, go_sem, *] <;> rfl) rfl ?_)
  all_goals (refine ⟨?_, ?_⟩)
  any_goals (repeat (first | (with_reducible exact Below.refl _ _) | (with_reducible refine Below.setCell ?_ ?hle _; (case hle => first | omega | (simp <;> omega))) | (with_reducible refine Below.alloc ?_ ?hle _; (case hle => first | omega | (simp <;> omega))) | (with_reducible refine Below.drew ?_) | (with_reducible refine below_drewN ?_ _) | (with_reducible refine belows_then ?_ ?hle hb; (case hle => first | omega | (simp <;> omega)))))
  all_goals (first | (simp [monthOk, *]; done) | (simp [monthOk] at *; grind) | (simp_all [monthOk]; done))

theorem ref_valid (m : Int) (w : World) : Calls Tryz.prog 20 #[.int .i64 m] w fun e w' => e = .returned (.bool (monthOk m)) ∧ Below w.heap.size w w' := by
  go_enter Tryz.func20, Tryz.ntmps20
  go_wp2
  all_goals (refine bodyPost_ret (v := _) (by simp [results, Tryz.results20, go_sem, *] <;> rfl) rfl ?_)
  all_goals (refine ⟨?_, ?_⟩)
  any_goals (repeat (first | (with_reducible exact Below.refl _ _) | (with_reducible refine Below.setCell ?_ ?hle _; (case hle => first | omega | (simp <;> omega))) | (with_reducible refine Below.alloc ?_ ?hle _; (case hle => first | omega | (simp <;> omega))) | (with_reducible refine Below.drew ?_) | (with_reducible refine below_drewN ?_ _) | (with_reducible refine belows_then ?_ ?hle hb; (case hle => first | omega | (simp <;> omega)))))
  all_goals (first | (simp [monthOk, *]; done) | (simp [monthOk] at *; grind) | (simp_all [monthOk]; done))

def tInt : Ty Tryz.prog 3 Int := Ty.int _ 3 .i64 Tryz.underlying3 (by kernel_rfl)
theorem int_at {w : World} {F : Nat → Prop} {a : Option Addr} {l : List Int} (h : Sl tInt w F a l) (i : Nat) (hi : i < l.length) :
    ∃ ad, a = some ad ∧ ad.block < w.heap.size ∧ w.cell? (ad.add i) = some (.int .i64 l[i]) := by
  obtain ⟨ad, ces, rfl, _, hlt, hc, hr⟩ := h i l[i] (List.getElem?_eq_getElem hi)
  obtain ⟨rfl, _⟩ := hr
  have hn : tInt.n = 1 := rfl
  rw [hn] at hc
  refine ⟨ad, rfl, hlt, ?_⟩
  have := hc 0 _ rfl
  rw [Nat.mul_one] at this
  simpa [Addr.add] using this

theorem all_take_succ {α : Type} (p : α → Bool) (l : List α) (n : Nat) (hn : n < l.length) : (l.take (n + 1)).all p = ((l.take n).all p && p l[n]) := by
  rw [List.take_succ_eq_append_getElem hn, List.all_append]; simp

set_option maxHeartbeats 1000000 in
theorem term_valid (a : Option Addr) (cap : Nat) (l : List Int) (w : World) (hl : l.length ≤ 140737488351232) {F : Nat → Prop} (hs : Sl tInt w F a l) :
    Calls Tryz.prog 66 #[.slice a l.length cap] w fun e w' => e = .returned (.bool (l.all monthOk)) ∧ Below w.heap.size w w' := by
  have HL := Lib.hid hs
  clear hs
  go_enter Tryz.func66, Tryz.ntmps66
  go_wp2_with fail
  go_loopw [7] (fun vi wr => ∃ n : Nat, n ≤ l.length ∧ vi = .int .i64 n ∧ Hid ((l.take n).all monthOk = true) ∧ Below w.heap.size w wr) (fun vi _ => l.length - (Go.RowKit.intOf vi).toNat)
  case atStart => exact ⟨0, Nat.zero_le _, rfl, rfl, Below.refl _ _⟩
  case round =>
    obtain ⟨n, hn, rfl, hall, hB⟩ := hrel
    have HB := Lib.hid hB
    by_cases hlt : n < l.length
    · obtain ⟨ad, rfl, hadl, hc0⟩ := int_at (HL.out.keep fun k hk _ => hB.block k hk) n hlt
      clear hB
      go_wp2_with fail
      refine (month_valid _ _).mono ?_
      rintro e w1 ⟨rfl, hb⟩
      have HB1 := Lib.hid (belows_then HB.out HB.out.size hb)
      clear hb
      by_cases hv : monthOk l[n] = true
      · go_wp2_with fail
        go_roundw
        case rel => exact ⟨n + 1, by omega, by go_num, by show _ = _; rw [all_take_succ _ _ _ hlt, hall.out, hv]; rfl, HB1.out⟩
        case measure => simp [Go.RowKit.intOf]; omega
      · have hv' : monthOk l[n] = false := by simpa using hv
        clear hv
        go_wp2_with fail
        go_ret
        refine ⟨?_, HB1.out⟩
        have : l.all monthOk = false := by
          rw [List.all_eq_false]
          exact ⟨l[n], List.getElem_mem hlt, by simp [hv']⟩
        rw [this]; rfl
    · clear hB
      go_wp2_with fail
      go_ret
      refine ⟨?_, HB.out⟩
      have : l.all monthOk = true := by
        have := hall.out
        rwa [List.take_of_length_le (by omega)] at this
      rw [this]; rfl

def placeOk (e p : Int) : Bool := decide (1 ≤ e) && decide (e ≤ 9) && monthOk p
theorem sl_one (m : Int) (b : Nat) (w : World) (hm : w.heap[b]? = some (.cells #[.int .i64 m] 3 (0, 0))) (hw : (Lit.int .i64 m).wf = true) : Sl tInt w (fun _ => True) (some ⟨b, 0, none⟩) [m] := by
  intro i x hx
  have hi : i = 0 := by have := (List.getElem?_eq_some_iff.1 hx).1; simp at this; exact this
  subst hi
  simp at hx
  subst hx
  refine ⟨⟨b, 0, none⟩, [.int .i64 m], rfl, trivial, blk_lt hm, fun j v hj => ?_, rfl, hw⟩
  have hj0 : j = 0 := by have := (List.getElem?_eq_some_iff.1 hj).1; simp at this; exact this
  subst hj0
  simp at hj
  subst hj
  have := blk_cells hm 0
  simpa [Addr.add] using this

theorem term_valid1 (m : Int) (b : Nat) (w : World) (hm : w.heap[b]? = some (.cells #[.int .i64 m] 3 (0, 0))) (hw : (Lit.int .i64 m).wf = true) :
    Calls Tryz.prog 66 #[.slice (some ⟨b, 0, none⟩) 1 1] w fun e w' => e = .returned (.bool (monthOk m)) ∧ Below w.heap.size w w' := by
  have h := term_valid (some ⟨b, 0, none⟩) 1 [m] w (by simp only [List.length_cons, List.length_nil]; omega) (sl_one m b w hm hw)
  have e1 : [m].all monthOk = monthOk m := by simp
  rw [e1] at h
  exact h

set_option maxHeartbeats 1000000 in
theorem there_any (e p : Int) (w : World) (hp : (Lit.int .i64 p).wf = true) :
    Calls Tryz.prog 16 #[.agg #[.int .i64 e, .int .i64 p]] w fun e' w' => e' = .returned (.bool (placeOk e p)) ∧ Below w.heap.size w w' := by
  have HP := Lib.hid hp
  clear hp
  by_cases h1 : 1 ≤ e ∧ e ≤ 9
  · obtain ⟨h1, h2⟩ := h1
    have e2 : placeOk e p = monthOk p := by simp [placeOk, h1, h2]
    rw [e2]
    clear e2
    go_enter Tryz.func16, Tryz.ntmps16
    go_wp2_with fail
    refine (term_valid1 p _ _ (by first | exact blk_new (w.alloc (.cells #[.int .i64 e, .int .i64 p] 62)) _ | (have := blk_new (w.alloc (.cells #[.int .i64 e, .int .i64 p] 62)) (.cells #[.int .i64 p] 3); simpa using this)) HP.out).mono ?_
    rintro e' w1 ⟨rfl, hb⟩
    have HB := Lib.hid (belows_then (((Below.refl w.heap.size w).alloc (Nat.le_refl _) (.cells #[.int .i64 e, .int .i64 p] 62)).alloc (by simp) (.cells #[.int .i64 p] 3)) (by simp; omega) hb)
    clear hb
    go_wp2_with fail
    go_ret
    exact ⟨rfl, HB.out⟩
  · have e2 : placeOk e p = false := by simp [placeOk]; omega
    rw [e2]
    clear e2
    by_cases h2 : 1 ≤ e
    · have h3 : ¬ e ≤ 9 := by omega
      clear h1
      go_enter Tryz.func16, Tryz.ntmps16
      go_wp2
      go_ret
      exact ⟨rfl, (Below.refl _ _).alloc (Nat.le_refl _) _⟩
    · clear h1
      go_enter Tryz.func16, Tryz.ntmps16
      go_wp2
      go_ret
      exact ⟨rfl, (Below.refl _ _).alloc (Nat.le_refl _) _⟩

def mayB (was to : Int) : Bool := was != 2 && (to != 2 || was == 1)
theorem may_any (was to : Int) (w : World) : Calls Tryz.prog 17 #[.int .i64 was, .int .i64 to] w fun e w' => e = .returned (.bool (mayB was to)) ∧ w' = w := by
  go_enter Tryz.func17, Tryz.ntmps17
  go_wp2
  all_goals
    go_ret
    refine ⟨?_, rfl⟩
    (first | (simp [mayB, *]; done) | (simp [mayB] at *; grind) | (simp_all [mayB]; done))

theorem laidOut : laidOutB Tryz.prog = true := by kernel_rfl
theorem law_place : WideMaps.KeyLaw Tryz.prog 62 := deep_law_laid laidOut (m := 2) (by omega) (of_decide_eq_true (by kernel_rfl)) (by kernel_rfl) (by kernel_rfl)
theorem keyed_place : Keyed Tryz.prog 62 := Keyed.of_law law_place
end Go.Proofs.YtacemlbfifhllaaGreat
