/- Small facts on blocks of a call's own: what a cell of it holds, that it is kept behind a call, a new block, a store. -/
import Derived.Test.YtfnmlpnncjhnmaaGreatChecked
import Derived.Test.YtfnmlpnncjhnmaaGreatX00TrialTells
import Derived.Test.YtfnmlpnncjhnmaaGreatX01TrialTells
import Derived.Lib.Strings
import Derived.Lib.Walk
import Derived.Lib.BufferWrite
import Derived.Lib.Hide
import Derived.Laws.MakeOwn
import Derived.WalkKit
import Derived.KernelRfl
import Derived.Below
import Derived.Deep.QuietTactic
import Derived.BigQuiet
import Derived.Laws.Rows
import Derived.Deep.LoopGhost
import Derived.Deep.RegionHeld3
import Derived.StillTailTactics
import Derived.WalkSpells
set_option linter.unusedVariables false
set_option linter.unusedSimpArgs false
namespace Go.Proofs.YtfnmlpnncjhnmaaGreat
open Go.RowKit

theorem bcell {W w1 : World} (hb : Below W.heap.size W w1) : (∀ b o, b < W.heap.size → w1.cell? ⟨b, o, none⟩ = W.cell? ⟨b, o, none⟩) ∧ (∀ b o, b < W.heap.size → w1.frozen? ⟨b, o, none⟩ = W.frozen? ⟨b, o, none⟩) :=
  ⟨fun b o h => hb.cell (p := ⟨b, o, none⟩) h, fun b o h => hb.frozen (p := ⟨b, o, none⟩) h⟩
theorem belows_then {B : Nat} {w w1 w2 : World} (h : Below B w w1) (hB : B ≤ w1.heap.size) (k : Below w1.heap.size w1 w2) : Below B w w2 := h.trans (k.mono hB)
theorem below_drewN {B : Nat} {a w : World} (h : Below B a w) (n : Nat) : Below B a (w.drewN n) := ⟨h.os, h.tape, h.output, h.size, h.block⟩

section
variable {w w1 : World} {g t : Nat} {cs : Array Value}
theorem blk_cells (h : w.heap[g]? = some (.cells cs t (0, 0))) : ∀ o, w.cell? ⟨g, o, none⟩ = cs[o]? := fun o => cell_of_row w g o cs t (0, 0) h
theorem blk_frz (h : w.heap[g]? = some (.cells cs t (0, 0))) : ∀ o, w.frozen? ⟨g, o, none⟩ = false := fun o => by simp [World.frozen?, h]
theorem blk_lt {o : Obj} (h : w.heap[g]? = some o) : g < w.heap.size := (Array.getElem?_eq_some_iff.1 h).1
theorem blk_new (w : World) (o : Obj) : (w.alloc o).heap[w.heap.size]? = some o := heap_alloc_new w o
theorem blk_alloc {o : Obj} (h : w.heap[g]? = some o) (o' : Obj) : (w.alloc o').heap[g]? = some o := (Below.heap_alloc w o' g (blk_lt h)).trans h
theorem blk_below {o : Obj} (h : w.heap[g]? = some o) (hb : Below w.heap.size w w1) : w1.heap[g]? = some o := (hb.block g (blk_lt h)).trans h
theorem blk_set (h : w.heap[g]? = some (.cells cs t (0, 0))) (i : Nat) (u : Value) : (w.setCell ⟨g, i, none⟩ u).heap[g]? = some (.cells (cs.setIfInBounds i u) t (0, 0)) := by
  simp [World.setCell, Array.getElem?_modify, h]
theorem blk_far {o : Obj} (h : w.heap[g]? = some o) {p : Addr} (hp : g ≠ p.block) (u : Value) : (w.setCell p u).heap[g]? = some o := (Below.heap_setCell w p u g hp).trans h
theorem blk_drew {o : Obj} (h : w.heap[g]? = some o) (n : Nat) : (w.drewN n).heap[g]? = some o := h
end
theorem still_tail {P : Program} {id : Nat} {Q : Exit → Act → World → Prop} {a : Act} {w : World} {l : List Oper} (n : Nat) (hm : P.follows .mixedOrders = true) (hB : Region.lexTailB .any l.toArray n = true)
    (h : wpStill P l.toArray w.drew (fun a' => wpList P l.toArray Q (l.drop n) a' w.drew) (l.take n) a) : (Code.region id l.toArray true).wp P Q a w := wp_region_still_tail n hm hB h
theorem abs_world {P : Program} {c : Code} {Q : Exit → Act → World → Prop} {a : Act} {W : World} {S : World → Prop} (h : ∀ wx, S wx → c.wp P Q a wx) (hs : S W) : c.wp P Q a W := h W hs
end Go.Proofs.YtfnmlpnncjhnmaaGreat


/- Contracts of the package gates. -/
set_option linter.unusedVariables false
set_option linter.unusedSimpArgs false
namespace Go.Proofs.YtfnmlpnncjhnmaaGreat
open Go.RowKit Go.Maps

abbrev I64 (n : Int) : Prop := (Lit.int .i64 n).wf = true
theorem i64_bd {n : Int} (h : I64 n) : -9223372036854775808 ≤ n ∧ n ≤ 9223372036854775807 := by
  unfold I64 Lit.wf at h
  simp [IntKind.min, IntKind.max, IntKind.bits, IntKind.signed] at h
  omega

def monthOk (m : Int) : Bool := decide (0 ≤ m) && decide (m ≤ 1199)

theorem month_valid (m : Int) (w : World) : Calls Tryz.prog 160 #[.int .i64 m] w fun e w' => e = .returned (.bool (monthOk m)) ∧ Below w.heap.size w w' := by
  go_enter Tryz.func160, Tryz.ntmps160
  go_wp2
  all_goals (refine bodyPost_ret (v := _) (by simp [results, Tryz.results160, go_sem, *] <;> rfl) rfl ?_)
  all_goals (refine ⟨?_, ?_⟩)
  any_goals (repeat (first | (with_reducible exact Below.refl _ _) | (with_reducible refine Below.setCell ?_ ?hle _; (case hle => first | omega | (simp <;> omega))) | (with_reducible refine Below.alloc ?_ ?hle _; (case hle => first | omega | (simp <;> omega))) | (with_reducible refine Below.drew ?_) | (with_reducible refine below_drewN ?_ _) | (with_reducible refine belows_then ?_ ?hle hb; (case hle => first | omega | (simp <;> omega)))))
  all_goals (first | (simp [monthOk, *]; done) | (simp [monthOk] at *; grind) | (simp_all [monthOk]; done))

theorem ref_valid (m : Int) (w : World) : Calls Tryz.prog 30 #[.int .i64 m] w fun e w' => e = .returned (.bool (monthOk m)) ∧ Below w.heap.size w w' := by
  go_enter Tryz.func30, Tryz.ntmps30
  go_wp2
  all_goals (refine bodyPost_ret (v := _) (by simp [results, Tryz.results30, go_sem, *] <;> rfl) rfl ?_)
  all_goals (refine ⟨?_, ?_⟩)
  any_goals (repeat (first | (with_reducible exact Below.refl _ _) | (with_reducible refine Below.setCell ?_ ?hle _; (case hle => first | omega | (simp <;> omega))) | (with_reducible refine Below.alloc ?_ ?hle _; (case hle => first | omega | (simp <;> omega))) | (with_reducible refine Below.drew ?_) | (with_reducible refine below_drewN ?_ _) | (with_reducible refine belows_then ?_ ?hle hb; (case hle => first | omega | (simp <;> omega)))))
  all_goals (first | (simp [monthOk, *]; done) | (simp [monthOk] at *; grind) | (simp_all [monthOk]; done))

def tInt : Ty Tryz.prog 3 Int := Ty.int _ 3 .i64 Tryz.underlying3 (by kernel_rfl)
theorem int_at {w : World} {F : Nat → Prop} {a : Option Addr} {l : List Int} (h : Sl tInt w F a l) (i : Nat) (hi : i < l.length) :
    ∃ ad, a = some ad ∧ ad.block < w.heap.size ∧ w.cell? (ad.add i) = some (.int .i64 l[i]) := by
  obtain ⟨ad, ces, rfl, _, hlt, hc, hr⟩ := h i l[i] (List.getElem?_eq_getElem hi)
  obtain ⟨rfl, _⟩ := hr
  have hn : tInt.n = 1 := rfl
  rw [hn] at hc
  refine ⟨ad, rfl, hlt, ?_⟩
  have := hc 0 _ rfl
  rw [Nat.mul_one] at this
  simpa [Addr.add] using this

theorem all_take_succ {α : Type} (p : α → Bool) (l : List α) (n : Nat) (hn : n < l.length) : (l.take (n + 1)).all p = ((l.take n).all p && p l[n]) := by
  rw [List.take_succ_eq_append_getElem hn, List.all_append]; simp

set_option maxHeartbeats 1000000 in
theorem term_valid (a : Option Addr) (cap : Nat) (l : List Int) (w : World) (hl : l.length ≤ 140737488351232) {F : Nat → Prop} (hs : Sl tInt w F a l) :
    Calls Tryz.prog 113 #[.slice a l.length cap] w fun e w' => e = .returned (.bool (l.all monthOk)) ∧ Below w.heap.size w w' := by
  have HL := Lib.hid hs
  clear hs
  go_enter Tryz.func113, Tryz.ntmps113
  go_wp2_with fail
  go_loopw [7] (fun vi wr => ∃ n : Nat, n ≤ l.length ∧ vi = .int .i64 n ∧ Hid ((l.take n).all monthOk = true) ∧ Below w.heap.size w wr) (fun vi _ => l.length - (intOf vi).toNat)
  case atStart => exact ⟨0, Nat.zero_le _, rfl, rfl, Below.refl _ _⟩
  case round =>
    obtain ⟨n, hn, rfl, hall, hB⟩ := hrel
    have HB := Lib.hid hB
    by_cases hlt : n < l.length
    · obtain ⟨ad, rfl, hadl, hc0⟩ := int_at (HL.out.keep fun k hk _ => hB.block k hk) n hlt
      clear hB
      go_wp2_with fail
      refine (month_valid _ _).mono ?_
      rintro e w1 ⟨rfl, hb⟩
      have HB1 := Lib.hid (belows_then HB.out HB.out.size hb)
      clear hb
      by_cases hv : monthOk l[n] = true
      · go_wp2_with fail
        go_roundw
        case rel => exact ⟨n + 1, by omega, by go_num, by show _ = _; rw [all_take_succ _ _ _ hlt, hall.out, hv]; rfl, HB1.out⟩
        case measure => simp [intOf]; omega
      · have hv' : monthOk l[n] = false := by simpa using hv
        clear hv
        go_wp2_with fail
        go_ret
        refine ⟨?_, HB1.out⟩
        have : l.all monthOk = false := by
          rw [List.all_eq_false]
          exact ⟨l[n], List.getElem_mem hlt, by simp [hv']⟩
        rw [this]; rfl
    · clear hB
      go_wp2_with fail
      go_ret
      refine ⟨?_, HB.out⟩
      have : l.all monthOk = true := by
        have := hall.out
        rwa [List.take_of_length_le (by omega)] at this
      rw [this]; rfl

def placeOk (e p : Int) : Bool := decide (1 ≤ e) && decide (e ≤ 9) && monthOk p
theorem sl_one (m : Int) (b : Nat) (w : World) (hm : w.heap[b]? = some (.cells #[.int .i64 m] 3 (0, 0))) (hw : (Lit.int .i64 m).wf = true) : Sl tInt w (fun _ => True) (some ⟨b, 0, none⟩) [m] := by
  intro i x hx
  have hi : i = 0 := by have := (List.getElem?_eq_some_iff.1 hx).1; simp at this; exact this
  subst hi
  simp at hx
  subst hx
  refine ⟨⟨b, 0, none⟩, [.int .i64 m], rfl, trivial, blk_lt hm, fun j v hj => ?_, rfl, hw⟩
  have hj0 : j = 0 := by have := (List.getElem?_eq_some_iff.1 hj).1; simp at this; exact this
  subst hj0
  simp at hj
  subst hj
  have := blk_cells hm 0
  simpa [Addr.add] using this

theorem term_valid1 (m : Int) (b : Nat) (w : World) (hm : w.heap[b]? = some (.cells #[.int .i64 m] 3 (0, 0))) (hw : (Lit.int .i64 m).wf = true) :
    Calls Tryz.prog 113 #[.slice (some ⟨b, 0, none⟩) 1 1] w fun e w' => e = .returned (.bool (monthOk m)) ∧ Below w.heap.size w w' := by
  have h := term_valid (some ⟨b, 0, none⟩) 1 [m] w (by simp only [List.length_cons, List.length_nil]; omega) (sl_one m b w hm hw)
  have e1 : [m].all monthOk = monthOk m := by simp
  rw [e1] at h
  exact h

def mayB (was to : Int) : Bool := was != 2 && (to != 2 || was == 1)
theorem laidOut : laidOutB Tryz.prog = true := by kernel_rfl
end Go.Proofs.YtfnmlpnncjhnmaaGreat

/- Frames: of what was there only some blocks may have turned. -/
set_option linter.unusedVariables false
set_option linter.unusedSimpArgs false
namespace Go.Proofs.YtfnmlpnncjhnmaaGreat
open Go.RowKit Go.Maps

/-- of what was there only the blocks of F may have turned -/
structure But (F : Nat → Prop) (w w' : World) : Prop where
  os : w'.os = w.os
  tape : w'.tape = w.tape
  output : w'.output = w.output
  size : w.heap.size ≤ w'.heap.size
  block : ∀ k, k < w.heap.size → ¬ F k → w'.heap[k]? = w.heap[k]?
section
variable {F G : Nat → Prop} {w w1 w2 : World}
theorem But.refl (F : Nat → Prop) (w : World) : But F w w := ⟨rfl, rfl, rfl, Nat.le_refl _, fun _ _ _ => rfl⟩
theorem But.trans (h : But F w w1) (k : But F w1 w2) : But F w w2 :=
  ⟨k.os.trans h.os, k.tape.trans h.tape, k.output.trans h.output, Nat.le_trans h.size k.size, fun i hi hf => (k.block i (Nat.lt_of_lt_of_le hi h.size) hf).trans (h.block i hi hf)⟩
theorem But.mono (h : But F w w1) (hi : ∀ k, k < w.heap.size → F k → G k) : But G w w1 := ⟨h.os, h.tape, h.output, h.size, fun k hk hg => h.block k hk (fun hf => hg (hi k hk hf))⟩
theorem But.of_below (h : Below w.heap.size w w1) (F : Nat → Prop) : But F w w1 := ⟨h.os, h.tape, h.output, h.size, fun k hk _ => h.block k hk⟩
theorem But.below (h : But F w w1) (hf : ∀ k, k < w.heap.size → ¬ F k) : Below w.heap.size w w1 := ⟨h.os, h.tape, h.output, h.size, fun k hk => h.block k hk (hf k hk)⟩
theorem But.drewN (h : But F w w1) (n : Nat) : But F w (w1.drewN n) := ⟨h.os, h.tape, h.output, h.size, h.block⟩
theorem But.drew (h : But F w w1) : But F w w1.drew := ⟨h.os, h.tape, h.output, h.size, h.block⟩
theorem But.alloc (h : But F w w1) (o : Obj) : But F w (w1.alloc o) := h.trans (.of_below ((Below.refl _ _).alloc (Nat.le_refl _) o) F)
theorem But.call (h : But F w w1) (hb : Below w1.heap.size w1 w2) : But F w w2 := h.trans (.of_below hb F)
theorem But.only {b : Nat} (h : But F w w1) (ho : OnlyB w1 w2 b) (hf : F b ∨ w.heap.size ≤ b) : But F w w2 :=
  ⟨ho.grown.os.trans h.os, ho.grown.tape.trans h.tape, ho.grown.output.trans h.output, by have := ho.size; have := h.size; omega, fun k hk hfk => by
    have hne : some k ≠ some b := by
      intro e
      injection e with e
      subst e
      rcases hf with hf | hf
      · exact hfk hf
      · omega
    exact (ho.grown.block k (Nat.lt_of_lt_of_le hk h.size) hne).trans (h.block k hk hfk)⟩
theorem But.setCell (h : But F w w1) {p : Addr} (hp : F p.block ∨ w.heap.size ≤ p.block) (u : Value) : But F w (w1.setCell p u) :=
  ⟨h.os, h.tape, h.output, by have := h.size; simpa [World.setCell] using this, fun k hk hfk => by
    have hne : k ≠ p.block := by
      intro e
      subst e
      rcases hp with hf | hf
      · exact hfk hf
      · omega
    exact (Below.heap_setCell w1 p u k hne).trans (h.block k hk hfk)⟩
theorem OnlyB.heap {b k : Nat} (ho : OnlyB w w1 b) (hk : k ≠ b) : w1.heap[k]? = w.heap[k]? := by
  by_cases hlt : k < w.heap.size
  · exact ho.grown.block k hlt (fun e => hk (by injection e))
  · have hs := ho.size
    rw [Array.getElem?_eq_none (by omega), Array.getElem?_eq_none (by omega)]
end

theorem But.grown {F : Nat → Prop} {w w1 w2 : World} {r : Option Nat} (h : But F w w1) (hg : w1.grownBy w2 r) (hf : ∀ k, r = some k → F k ∨ w.heap.size ≤ k) : But F w w2 :=
  ⟨hg.os.trans h.os, hg.tape.trans h.tape, hg.output.trans h.output, Nat.le_trans h.size hg.size, fun k hk hfk => by
    have hne : some k ≠ r := by
      intro e
      rcases hf k e.symm with hf | hf
      · exact hfk hf
      · omega
    exact (hg.block k (Nat.lt_of_lt_of_le hk h.size) hne).trans (h.block k hk hfk)⟩
end Go.Proofs.YtfnmlpnncjhnmaaGreat
