/- Typed readings of what lies in memory: how an integer, a text, a struct, a list of such is read off cells; every argument that the row can read is read so. -/
import Derived.Deep.Slices
import Derived.Below
import Derived.SizedLaws
import Derived.ChangeSlices
import Derived.WideShapes
import Derived.Test.YtgggpaacagbmcaaGreatChecked
import Derived.Test.YtgggpaacagbmcaaGreatX00GroupInner
import Derived.Lib.Strings
import Derived.Lib.Walk
import Derived.Lib.BufferWrite
import Derived.Lib.Hide
import Derived.Laws.MakeOwn
import Derived.WalkKit
import Derived.KernelRfl
import Derived.Deep.QuietTactic
import Derived.BigQuiet
import Derived.Laws.Rows
import Derived.Deep.LoopGhost
import Derived.Deep.RegionHeld3
import Derived.StillTailTactics
import Derived.WalkSpells
set_option linter.unusedVariables false
set_option linter.unusedSimpArgs false
namespace Go.Proofs.YtgggpaacagbmcaaGreat
open Go.RowKit Go.Deep

/-- How a value of type t lies in cells, and what it is in plain words. -/
structure Ty (P : Program) (t : TypeId) (α : Type) where
  n : Nat
  R : World → (Nat → Prop) → List Value → α → Prop
  hn : P.cellsOf t = n
  len : ∀ {w : World} {F : Nat → Prop} {cs : List Value} {x : α}, R w F cs x → cs.length = n
  keep : ∀ {w w' : World} {F : Nat → Prop} {cs : List Value} {x : α}, (∀ k, k < w.heap.size → F k → w'.heap[k]? = w.heap[k]?) → R w F cs x → R w' F cs x
  mono : ∀ {w : World} {F G : Nat → Prop} {cs : List Value} {x : α}, (∀ k, k < w.heap.size → F k → G k) → R w F cs x → R w G cs x
  of : ∀ {H : Type} {enc : TypeId × Value → H} {w : World} {fuel : Nat} {cs : List Value} {d : DataW H} {ps : List MemPlace},
    DataW.trod enc P w 0 (fun _ => true) true fuel t cs = some (d, ps) → (d.weights P t).all (· ≤ reachBytes) = true → ∃ x, R w (fun _ => True) cs x

def Ty.int (P : Program) (t : TypeId) (k : IntKind) (h : P.underlying t = some (.int k)) (hn : P.cellsOf t = 1) : Ty P t Int where
  n := 1
  R := fun _ _ cs x => cs = [.int k x] ∧ (Lit.int k x).wf = true
  hn := hn
  len := by rintro _ _ _ _ ⟨rfl, _⟩; rfl
  keep := fun _ h => h
  mono := fun _ h => h
  of := by
    intro H enc w fuel cs d ps h1 _
    obtain ⟨x, rfl, _, hw⟩ := DataW.trod_int h h1
    exact ⟨x, rfl, hw⟩

def Ty.bool (P : Program) (t : TypeId) (h : P.underlying t = some .bool) (hn : P.cellsOf t = 1) : Ty P t Bool where
  n := 1
  R := fun _ _ cs x => cs = [.bool x]
  hn := hn
  len := by rintro _ _ _ _ rfl; rfl
  keep := fun _ h => h
  mono := fun _ h => h
  of := by
    intro H enc w fuel cs d ps h1 _
    obtain ⟨x, rfl, _⟩ := DataW.trod_bool h h1
    exact ⟨x, rfl⟩

def Ty.str (P : Program) (t : TypeId) (h : P.underlying t = some .string) (hn : P.cellsOf t = 1) : Ty P t ByteArray where
  n := 1
  R := fun _ _ cs x => cs = [.string x] ∧ x.size ≤ 140737488351232
  hn := hn
  len := by rintro _ _ _ _ ⟨rfl, _⟩; rfl
  keep := fun _ h => h
  mono := fun _ h => h
  of := by
    intro H enc w fuel cs d ps h1 h2
    obtain ⟨x, rfl, hd, _⟩ := DataW.trod_string h h1
    obtain ⟨rfl, _⟩ := Prod.mk.inj hd
    refine ⟨x, rfl, ?_⟩
    simp [DataW.weights, reachBytes] at h2
    exact of_decide_eq_true h2

/-- The fields of a struct, from an offset on. -/
structure Flds (P : Program) (fs : List Field) (off : Nat) (β : Type) where
  n : Nat
  R : World → (Nat → Prop) → List Value → β → Prop
  len : ∀ {w : World} {F : Nat → Prop} {cs : List Value} {x : β}, R w F cs x → cs.length = n
  keep : ∀ {w w' : World} {F : Nat → Prop} {cs : List Value} {x : β}, (∀ k, k < w.heap.size → F k → w'.heap[k]? = w.heap[k]?) → R w F cs x → R w' F cs x
  mono : ∀ {w : World} {F G : Nat → Prop} {cs : List Value} {x : β}, (∀ k, k < w.heap.size → F k → G k) → R w F cs x → R w G cs x
  of : ∀ {H : Type} {enc : TypeId × Value → H} {w : World} {fuel : Nat} {cs : List Value},
    (∀ (i : Nat) (f : Field), fs[i]? = some f → ∃ d ps, DataW.trod enc P w 0 (fun _ => true) true fuel f.type ((cs.drop f.offset).take (P.cellsOf f.type)) = some (d, ps) ∧ (d.weights P f.type).all (· ≤ reachBytes) = true) →
    ∃ x, R w (fun _ => True) ((cs.drop off).take n) x

def Flds.nil (P : Program) (off : Nat) : Flds P [] off Unit where
  n := 0
  R := fun _ _ cs _ => cs = []
  len := by rintro _ _ _ _ rfl; rfl
  keep := fun _ h => h
  mono := fun _ h => h
  of := fun _ => ⟨(), by simp⟩

def Flds.cons {P : Program} {f : Field} {fs : List Field} {off : Nat} {α β : Type} (T : Ty P f.type α) (ho : f.offset = off) (F : Flds P fs (off + T.n) β) : Flds P (f :: fs) off (α × β) where
  n := T.n + F.n
  R := fun w S cs x => ∃ c1 c2, cs = c1 ++ c2 ∧ T.R w S c1 x.1 ∧ F.R w S c2 x.2
  len := by
    rintro _ _ _ _ ⟨c1, c2, rfl, h1, h2⟩
    rw [List.length_append, T.len h1, F.len h2]
  keep := by
    rintro _ _ _ _ _ hb ⟨c1, c2, rfl, h1, h2⟩
    exact ⟨c1, c2, rfl, T.keep hb h1, F.keep hb h2⟩
  mono := by
    rintro _ _ _ _ _ hb ⟨c1, c2, rfl, h1, h2⟩
    exact ⟨c1, c2, rfl, T.mono hb h1, F.mono hb h2⟩
  of := by
    intro H enc w fuel cs h
    obtain ⟨d, ps, h1, h2⟩ := h 0 f rfl
    obtain ⟨x, hx⟩ := T.of h1 h2
    obtain ⟨y, hy⟩ := F.of (cs := cs) (fun i g hg => h (i + 1) g hg)
    rw [T.hn, ho] at hx
    refine ⟨(x, y), _, _, ?_, hx, hy⟩
    rw [List.take_add, List.drop_drop]

theorem all_each {H : Type} (P : Program) : ∀ (ts : List TypeId) (ds : List (DataW H)), (DataW.weightsEach P ts ds).all (· ≤ reachBytes) = true →
    ∀ (i : Nat) (t : TypeId) (d : DataW H), ts[i]? = some t → ds[i]? = some d → (d.weights P t).all (· ≤ reachBytes) = true
  | [], _, _, i, t, d, ht, _ => by simp at ht
  | _ :: _, [], _, i, t, d, _, hd => by simp at hd
  | t0 :: ts, d0 :: ds, h, i, t, d, ht, hd => by
    simp only [DataW.weightsEach, List.all_append, Bool.and_eq_true] at h
    cases i with
    | zero => simp at ht hd; subst ht; subst hd; exact h.1
    | succ i => exact all_each P ts ds h.2 i t d (by simpa using ht) (by simpa using hd)
theorem all_all {H : Type} (P : Program) (e : TypeId) : ∀ (ds : List (DataW H)), (DataW.weightsAll P e ds).all (· ≤ reachBytes) = true →
    ∀ d ∈ ds, (d.weights P e).all (· ≤ reachBytes) = true
  | [], _, d, hd => by simp at hd
  | d0 :: ds, h, d, hd => by
    simp only [DataW.weightsAll, List.all_append, Bool.and_eq_true] at h
    rcases List.mem_cons.1 hd with rfl | hd
    · exact h.1
    · exact all_all P e ds h.2 d hd

def Ty.struct {P : Program} {t : TypeId} {β : Type} {fs : Array Field} (h : P.underlying t = some (.struct fs)) (F : Flds P fs.toList 0 β) (hn : P.cellsOf t = F.n) : Ty P t β where
  n := F.n
  R := F.R
  hn := hn
  len := F.len
  keep := F.keep
  mono := F.mono
  of := by
    intro H enc w fuel cs d ps h1 h2
    obtain ⟨xs, n, rfl, hx, hl, hxl, hf⟩ := DataW.trod_struct h h1
    obtain ⟨rfl, _⟩ := Prod.mk.inj hx
    simp only [DataW.weights, h] at h2
    obtain ⟨y, hy⟩ := F.of (enc := enc) (w := w) (fuel := n) (cs := cs) (fun i f hif => by
      have hif' : fs[i]? = some f := by simpa using hif
      have hlt : i < fs.size := (Array.getElem?_eq_some_iff.1 hif').1
      have hx1 := hf i f hif'
      have hlt' : i < xs.length := by omega
      refine ⟨xs[i].1, xs[i].2, ?_, ?_⟩
      · rw [hx1, List.getElem?_eq_getElem hlt']
      · refine all_each P _ _ h2 i f.type xs[i].1 ?_ ?_
        · simp [hif']
        · simp [hlt'])
    refine ⟨y, ?_⟩
    rwa [List.drop_zero, List.take_of_length_le (by omega)] at hy

def Ty.map {P : Program} {t : TypeId} {α β : Type} (T : Ty P t α) (f : α → β) : Ty P t β where
  n := T.n
  R := fun w S cs y => ∃ x, y = f x ∧ T.R w S cs x
  hn := T.hn
  len := by rintro _ _ _ _ ⟨x, _, h⟩; exact T.len h
  keep := by rintro _ _ _ _ _ hb ⟨x, e, h⟩; exact ⟨x, e, T.keep hb h⟩
  mono := by rintro _ _ _ _ _ hb ⟨x, e, h⟩; exact ⟨x, e, T.mono hb h⟩
  of := by
    intro H enc w fuel cs d ps h1 h2
    obtain ⟨x, hx⟩ := T.of h1 h2
    exact ⟨f x, x, rfl, hx⟩

/-- A list that lies in memory from an address on, element behind element; all of it in blocks of F. -/
def Sl {P : Program} {e : TypeId} {α : Type} (T : Ty P e α) (w : World) (F : Nat → Prop) (a : Option Addr) (xs : List α) : Prop :=
  ∀ i x, xs[i]? = some x → ∃ ad ces, a = some ad ∧ F ad.block ∧ ad.block < w.heap.size ∧ (∀ j v, ces[j]? = some v → w.cell? ((ad.add (i * T.n)).add j) = some v) ∧ T.R w F ces x

theorem add_block (a : Addr) (n : Nat) : (a.add n).block = a.block := by unfold Addr.add; split <;> rfl
theorem Sl.keep {P : Program} {e : TypeId} {α : Type} {T : Ty P e α} {w w' : World} {F : Nat → Prop} {a : Option Addr} {xs : List α} (hb : ∀ k, k < w.heap.size → F k → w'.heap[k]? = w.heap[k]?) (h : Sl T w F a xs) : Sl T w' F a xs := by
  intro i x hx
  obtain ⟨ad, ces, ha, hf, hlt, hc, hr⟩ := h i x hx
  have hs := hb ad.block hlt hf
  have hlt' : ad.block < w'.heap.size := by
    rcases Nat.lt_or_ge ad.block w'.heap.size with h | h
    · exact h
    · rw [Array.getElem?_eq_none h, Array.getElem?_eq_getElem hlt] at hs; cases hs
  refine ⟨ad, ces, ha, hf, hlt', fun j v hv => ?_, T.keep hb hr⟩
  rw [← hc j v hv]
  exact World.cell?_of_block (w := w) (by rw [add_block, add_block]; exact hs)
theorem Sl.mono {P : Program} {e : TypeId} {α : Type} {T : Ty P e α} {w : World} {F G : Nat → Prop} {a : Option Addr} {xs : List α} (hb : ∀ k, k < w.heap.size → F k → G k) (h : Sl T w F a xs) : Sl T w G a xs := by
  intro i x hx
  obtain ⟨ad, ces, ha, hf, hlt, hc, hr⟩ := h i x hx
  exact ⟨ad, ces, ha, hb _ hlt hf, hlt, hc, T.mono hb hr⟩

def Ty.slice {P : Program} {t e : TypeId} {α : Type} (h : P.underlying t = some (.slice e)) (hn : P.cellsOf t = 1) (T : Ty P e α) (hpos : 0 < T.n) : Ty P t (List α) where
  n := 1
  R := fun w F cs xs => ∃ a cap, cs = [.slice a xs.length cap] ∧ Sl T w F a xs ∧ xs.length ≤ cap ∧ cap ≤ maxLen ∧ xs.length * P.bytesOf e ≤ 140737488351232
  hn := hn
  len := by rintro _ _ _ _ ⟨a, cap, rfl, _⟩; rfl
  keep := by rintro _ _ _ _ _ hb ⟨a, cap, rfl, h1, h2⟩; exact ⟨a, cap, rfl, h1.keep hb, h2⟩
  mono := by rintro _ _ _ _ _ hb ⟨a, cap, rfl, h1, h2⟩; exact ⟨a, cap, rfl, h1.mono hb, h2⟩
  of := by
    intro H enc w fuel cs d ps h1 h2
    rcases open_slice h h1 with ⟨rfl, hx⟩ | ⟨a, len, cap, m, n, D, Pl, rfl, hb, hl, hm, hmm, hx, hel⟩
    · exact ⟨[], none, 0, rfl, fun i x hi => by simp at hi, by simp, by simp, by simp⟩
    · obtain ⟨rfl, _⟩ := Prod.mk.inj hx
      simp only [DataW.weights, h] at h2
      simp only [if_true] at hmm
      subst hmm
      simp only [List.all_cons, List.all_append, Bool.and_eq_true, decide_eq_true_eq, List.length_map, List.length_range] at h2
      have hall : ∀ i, i < len → ((D i).weights P e).all (· ≤ reachBytes) = true := fun i hi =>
        all_all P e _ h2.2.1 (D i) (List.mem_map.2 ⟨i, List.mem_range.2 hi, rfl⟩)
      have hex : ∀ i, i < len → ∃ x, ∃ ces, (∀ j v, ces[j]? = some v → w.cell? ((a.add (i * T.n)).add j) = some v) ∧ T.R w (fun _ => True) ces x := fun i hi => by
        obtain ⟨cs', hc1, hc2⟩ := hel i (by omega)
        obtain ⟨x, hx⟩ := T.of hc2 (hall i hi)
        obtain ⟨_, hlen, hcell⟩ := World.cells?_some hc1
        refine ⟨x, cs', fun j v hv => ?_, hx⟩
        have hj : j < P.cellsOf e := by rw [← hlen]; exact (List.getElem?_eq_some_iff.1 hv).1
        have := hcell j hj
        rw [T.hn] at this
        rw [this, hv]
      have hlen : ∃ xs : List α, xs.length = len ∧ ∀ i x, xs[i]? = some x → ∃ ces, (∀ j v, ces[j]? = some v → w.cell? ((a.add (i * T.n)).add j) = some v) ∧ T.R w (fun _ => True) ces x := by
        clear hx h2 hall hel h1
        have : ∀ k, k ≤ len → ∃ xs : List α, xs.length = k ∧ ∀ i x, xs[i]? = some x → ∃ ces, (∀ j v, ces[j]? = some v → w.cell? ((a.add (i * T.n)).add j) = some v) ∧ T.R w (fun _ => True) ces x := by
          intro k
          induction k with
          | zero => exact fun _ => ⟨[], rfl, fun i x hx => by simp at hx⟩
          | succ k ih =>
            intro hk
            obtain ⟨xs, hl, hxs⟩ := ih (by omega)
            obtain ⟨x, hx⟩ := hex k (by omega)
            refine ⟨xs ++ [x], by simp [hl], fun i y hy => ?_⟩
            by_cases hi : i < xs.length
            · rw [List.getElem?_append_left hi] at hy
              exact hxs i y hy
            · have hik : i = k := by
                have := (List.getElem?_eq_some_iff.1 hy).1
                simp at this
                omega
              subst hik
              rw [List.getElem?_append_right (by omega), hl] at hy
              simp at hy
              subst hy
              exact hx
        exact this len (Nat.le_refl _)
      obtain ⟨xs, hxl, hxs⟩ := hlen
      refine ⟨xs, some a, m, by rw [hxl], fun i x hi => ?_, by omega, hm, ?_⟩
      · obtain ⟨ces, h3, h4⟩ := hxs i x hi
        have hi' : i < len := by have := (List.getElem?_eq_some_iff.1 hi).1; omega
        obtain ⟨cs', hc1, hc2⟩ := hel i (by omega)
        obtain ⟨_, hlen, hcell⟩ := World.cells?_some hc1
        have h0 := hcell 0 (by rw [T.hn]; exact hpos)
        have hl0 : 0 < cs'.length := by rw [hlen, T.hn]; exact hpos
        rw [List.getElem?_eq_getElem hl0] at h0
        have hlt := World.block_lt_of_cell? w _ h0
        rw [add_block, add_block] at hlt
        exact ⟨a, ces, rfl, trivial, hlt, h3, h4⟩
      · have := h2.1
        unfold reachBytes at this
        rw [hxl]
        refine Nat.le_trans (Nat.mul_le_mul_right _ ?_) this
        omega
end Go.Proofs.YtgggpaacagbmcaaGreat

/- Small facts on blocks of a call's own: what a cell of it holds, that it is kept behind a call, a new block, a store. -/
set_option linter.unusedVariables false
set_option linter.unusedSimpArgs false
namespace Go.Proofs.YtgggpaacagbmcaaGreat
open Go.RowKit

theorem bcell {W w1 : World} (hb : Below W.heap.size W w1) : (∀ b o, b < W.heap.size → w1.cell? ⟨b, o, none⟩ = W.cell? ⟨b, o, none⟩) ∧ (∀ b o, b < W.heap.size → w1.frozen? ⟨b, o, none⟩ = W.frozen? ⟨b, o, none⟩) :=
  ⟨fun b o h => hb.cell (p := ⟨b, o, none⟩) h, fun b o h => hb.frozen (p := ⟨b, o, none⟩) h⟩
theorem belows_then {B : Nat} {w w1 w2 : World} (h : Below B w w1) (hB : B ≤ w1.heap.size) (k : Below w1.heap.size w1 w2) : Below B w w2 := h.trans (k.mono hB)
theorem below_drewN {B : Nat} {a w : World} (h : Below B a w) (n : Nat) : Below B a (w.drewN n) := ⟨h.os, h.tape, h.output, h.size, h.block⟩

section
variable {w w1 : World} {g t : Nat} {cs : Array Value}
theorem blk_cells (h : w.heap[g]? = some (.cells cs t (0, 0))) : ∀ o, w.cell? ⟨g, o, none⟩ = cs[o]? := fun o => cell_of_row w g o cs t (0, 0) h
theorem blk_frz (h : w.heap[g]? = some (.cells cs t (0, 0))) : ∀ o, w.frozen? ⟨g, o, none⟩ = false := fun o => by simp [World.frozen?, h]
theorem blk_lt {o : Obj} (h : w.heap[g]? = some o) : g < w.heap.size := (Array.getElem?_eq_some_iff.1 h).1
theorem blk_new (w : World) (o : Obj) : (w.alloc o).heap[w.heap.size]? = some o := heap_alloc_new w o
theorem blk_alloc {o : Obj} (h : w.heap[g]? = some o) (o' : Obj) : (w.alloc o').heap[g]? = some o := (Below.heap_alloc w o' g (blk_lt h)).trans h
theorem blk_below {o : Obj} (h : w.heap[g]? = some o) (hb : Below w.heap.size w w1) : w1.heap[g]? = some o := (hb.block g (blk_lt h)).trans h
theorem blk_set (h : w.heap[g]? = some (.cells cs t (0, 0))) (i : Nat) (u : Value) : (w.setCell ⟨g, i, none⟩ u).heap[g]? = some (.cells (cs.setIfInBounds i u) t (0, 0)) := by
  simp [World.setCell, Array.getElem?_modify, h]
theorem blk_far {o : Obj} (h : w.heap[g]? = some o) {p : Addr} (hp : g ≠ p.block) (u : Value) : (w.setCell p u).heap[g]? = some o := (Below.heap_setCell w p u g hp).trans h
theorem blk_drew {o : Obj} (h : w.heap[g]? = some o) (n : Nat) : (w.drewN n).heap[g]? = some o := h
end
theorem still_tail {P : Program} {id : Nat} {Q : Exit → Act → World → Prop} {a : Act} {w : World} {l : List Oper} (n : Nat) (hm : P.follows .mixedOrders = true) (hB : Region.lexTailB .any l.toArray n = true)
    (h : wpStill P l.toArray w.drew (fun a' => wpList P l.toArray Q (l.drop n) a' w.drew) (l.take n) a) : (Code.region id l.toArray true).wp P Q a w := wp_region_still_tail n hm hB h
theorem abs_world {P : Program} {c : Code} {Q : Exit → Act → World → Prop} {a : Act} {W : World} {S : World → Prop} (h : ∀ wx, S wx → c.wp P Q a wx) (hs : S W) : c.wp P Q a W := h W hs
end Go.Proofs.YtgggpaacagbmcaaGreat


/- Contracts of the package gates. -/
set_option linter.unusedVariables false
set_option linter.unusedSimpArgs false
namespace Go.Proofs.YtgggpaacagbmcaaGreat
open Go.RowKit Go.Maps

abbrev I64 (n : Int) : Prop := (Lit.int .i64 n).wf = true
theorem i64_bd {n : Int} (h : I64 n) : -9223372036854775808 ≤ n ∧ n ≤ 9223372036854775807 := by
  unfold I64 Lit.wf at h
  simp [IntKind.min, IntKind.max, IntKind.bits, IntKind.signed] at h
  omega

def monthOk (m : Int) : Bool := decide (0 ≤ m) && decide (m ≤ 1199)

theorem month_valid (m : Int) (w : World) : Calls Tryz.prog 92 #[.int .i64 m] w fun e w' => e = .returned (.bool (monthOk m)) ∧ Below w.heap.size w w' := by
  go_enter Tryz.func92, Tryz.ntmps92
  go_wp2
  all_goals (refine bodyPost_ret (v := _) (by simp [results, Tryz.results92, go_sem, *] <;> rfl) rfl ?_)
  all_goals (refine ⟨?_, ?_⟩)
  any_goals (repeat (first | (with_reducible exact Below.refl _ _) | (with_reducible refine Below.setCell ?_ ?hle _; (case hle => first | omega | (simp <;> omega))) | (with_reducible refine Below.alloc ?_ ?hle _; (case hle => first | omega | (simp <;> omega))) | (with_reducible refine Below.drew ?_) | (with_reducible refine below_drewN ?_ _) | (with_reducible refine belows_then ?_ ?hle hb; (case hle => first | omega | (simp <;> omega)))))
  all_goals (first | (simp [monthOk, *]; done) | (simp [monthOk] at *; grind) | (simp_all [monthOk]; done))

theorem ref_valid (m : Int) (w : World) : Calls Tryz.prog 14 #[.int .i64 m] w fun e w' => e = .returned (.bool (monthOk m)) ∧ Below w.heap.size w w' := by
  go_enter Tryz.func14, Tryz.ntmps14
  go_wp2
  all_goals (refine bodyPost_ret (v := _) (by simp [results, Tryz.results14, go_sem, *] <;> rfl) rfl ?_)
  all_goals (refine ⟨?_, ?_⟩)
  any_goals (repeat (first | (with_reducible exact Below.refl _ _) | (with_reducible refine Below.setCell ?_ ?hle _; (case hle => first | omega | (simp <;> omega))) | (with_reducible refine Below.alloc ?_ ?hle _; (case hle => first | omega | (simp <;> omega))) | (with_reducible refine Below.drew ?_) | (with_reducible refine below_drewN ?_ _) | (with_reducible refine belows_then ?_ ?hle hb; (case hle => first | omega | (simp <;> omega)))))
  all_goals (first | (simp [monthOk, *]; done) | (simp [monthOk] at *; grind) | (simp_all [monthOk]; done))

def tInt : Ty Tryz.prog 3 Int := Ty.int _ 3 .i64 Tryz.underlying3 (by kernel_rfl)
theorem int_at {w : World} {F : Nat → Prop} {a : Option Addr} {l : List Int} (h : Sl tInt w F a l) (i : Nat) (hi : i < l.length) :
    ∃ ad, a = some ad ∧ ad.block < w.heap.size ∧ w.cell? (ad.add i) = some (.int .i64 l[i]) := by
  obtain ⟨ad, ces, rfl, _, hlt, hc, hr⟩ := h i l[i] (List.getElem?_eq_getElem hi)
  obtain ⟨rfl, _⟩ := hr
  have hn : tInt.n = 1 := rfl
  rw [hn] at hc
  refine ⟨ad, rfl, hlt, ?_⟩
  have := hc 0 _ rfl
  rw [Nat.mul_one] at this
  simpa [Addr.add] using this

theorem all_take_succ {α : Type} (p : α → Bool) (l : List α) (n : Nat) (hn : n < l.length) : (l.take (n + 1)).all p = ((l.take n).all p && p l[n]) := by
  rw [List.take_succ_eq_append_getElem hn, List.all_append]; simp

set_option maxHeartbeats 1000000 in
theorem term_valid (a : Option Addr) (cap : Nat) (l : List Int) (w : World) (hl : l.length ≤ 140737488351232) {F : Nat → Prop} (hs : Sl tInt w F a l) :
    Calls Tryz.prog 28 #[.slice a l.length cap] w fun e w' => e = .returned (.bool (l.all monthOk)) ∧ Below w.heap.size w w' := by
  have HL := Lib.hid hs
  clear hs
  go_enter Tryz.func28, Tryz.ntmps28
  go_wp2_with fail
  go_loopw [7] (fun vi wr => ∃ n : Nat, n ≤ l.length ∧ vi = .int .i64 n ∧ Hid ((l.take n).all monthOk = true) ∧ Below w.heap.size w wr) (fun vi _ => l.length - (Go.RowKit.intOf vi).toNat)
  case atStart => exact ⟨0, Nat.zero_le _, rfl, rfl, Below.refl _ _⟩
  case round =>
    obtain ⟨n, hn, rfl, hall, hB⟩ := hrel
    have HB := Lib.hid hB
    by_cases hlt : n < l.length
    · obtain ⟨ad, rfl, hadl, hc0⟩ := int_at (HL.out.keep fun k hk _ => hB.block k hk) n hlt
      clear hB
      go_wp2_with fail
      refine (month_valid _ _).mono ?_
      rintro e w1 ⟨rfl, hb⟩
      have HB1 := Lib.hid (belows_then HB.out HB.out.size hb)
      clear hb
      by_cases hv : monthOk l[n] = true
      · go_wp2_with fail
        go_roundw
        case rel => exact ⟨n + 1, by omega, by go_num, by show _ = _; rw [all_take_succ _ _ _ hlt, hall.out, hv]; rfl, HB1.out⟩
        case measure => simp [Go.RowKit.intOf]; omega
      · have hv' : monthOk l[n] = false := by simpa using hv
        clear hv
        go_wp2_with fail
        go_ret
        refine ⟨?_, HB1.out⟩
        have : l.all monthOk = false := by
          rw [List.all_eq_false]
          exact ⟨l[n], List.getElem_mem hlt, by simp [hv']⟩
        rw [this]; rfl
    · clear hB
      go_wp2_with fail
      go_ret
      refine ⟨?_, HB.out⟩
      have : l.all monthOk = true := by
        have := hall.out
        rwa [List.take_of_length_le (by omega)] at this
      rw [this]; rfl

def placeOk (e p : Int) : Bool := decide (1 ≤ e) && decide (e ≤ 9) && monthOk p
theorem sl_one (m : Int) (b : Nat) (w : World) (hm : w.heap[b]? = some (.cells #[.int .i64 m] 3 (0, 0))) (hw : (Lit.int .i64 m).wf = true) : Sl tInt w (fun _ => True) (some ⟨b, 0, none⟩) [m] := by
  intro i x hx
  have hi : i = 0 := by have := (List.getElem?_eq_some_iff.1 hx).1; simp at this; exact this
  subst hi
  simp at hx
  subst hx
  refine ⟨⟨b, 0, none⟩, [.int .i64 m], rfl, trivial, blk_lt hm, fun j v hj => ?_, rfl, hw⟩
  have hj0 : j = 0 := by have := (List.getElem?_eq_some_iff.1 hj).1; simp at this; exact this
  subst hj0
  simp at hj
  subst hj
  have := blk_cells hm 0
  simpa [Addr.add] using this

theorem term_valid1 (m : Int) (b : Nat) (w : World) (hm : w.heap[b]? = some (.cells #[.int .i64 m] 3 (0, 0))) (hw : (Lit.int .i64 m).wf = true) :
    Calls Tryz.prog 28 #[.slice (some ⟨b, 0, none⟩) 1 1] w fun e w' => e = .returned (.bool (monthOk m)) ∧ Below w.heap.size w w' := by
  have h := term_valid (some ⟨b, 0, none⟩) 1 [m] w (by simp only [List.length_cons, List.length_nil]; omega) (sl_one m b w hm hw)
  have e1 : [m].all monthOk = monthOk m := by simp
  rw [e1] at h
  exact h

def mayB (was to : Int) : Bool := was != 2 && (to != 2 || was == 1)
theorem laidOut : laidOutB Tryz.prog = true := by kernel_rfl
end Go.Proofs.YtgggpaacagbmcaaGreat


/- Journals and their lines: plain types, how they lie in memory. -/
set_option linter.unusedVariables false
set_option linter.unusedSimpArgs false
namespace Go.Proofs.YtgggpaacagbmcaaGreat
open Go.RowKit Go.Maps

structure Ln where
  acc : Int
  amt : Int
  par : Int
  deriving DecidableEq
structure Jn where
  id : Int
  en : Int
  pe : Int
  ref : ByteArray
  lines : List Ln
  void : Bool
def Ln.mk' (x : Int × Int × Int × Unit) : Ln := ⟨x.1, x.2.1, x.2.2.1⟩
def Jn.mk' (x : Int × Int × Int × ByteArray × List Ln × Bool × Unit) : Jn := ⟨x.1, x.2.1, x.2.2.1, x.2.2.2.1, x.2.2.2.2.1, x.2.2.2.2.2.1⟩

def tStr : Ty Tryz.prog 9 ByteArray := Ty.str _ 9 Tryz.underlying9 (by kernel_rfl)
def tBool : Ty Tryz.prog 4 Bool := Ty.bool _ 4 Tryz.underlying4 (by kernel_rfl)
abbrev fld (n : String) (t o b : Nat) : Field := { name := n, type := t, offset := o, embedded := false, tag := "", pkgPath := "", byteOffset := b }
def fLn : Flds Tryz.prog [fld "Account" 3 0 0, fld "Amount" 3 1 8, fld "Partner" 3 2 16] 0 (Int × Int × Int × Unit) :=
  Flds.cons (f := fld "Account" 3 0 0) tInt rfl (Flds.cons (f := fld "Amount" 3 1 8) tInt rfl (Flds.cons (f := fld "Partner" 3 2 16) tInt rfl (Flds.nil _ _)))
def tLn : Ty Tryz.prog 74 Ln := (Ty.struct Tryz.underlying74 fLn (by kernel_rfl)).map Ln.mk'
def tLns : Ty Tryz.prog 67 (List Ln) := Ty.slice Tryz.underlying67 (by kernel_rfl) tLn (by decide)
def fJn : Flds Tryz.prog [fld "Id" 3 0 0, fld "Entity" 3 1 8, fld "Period" 3 2 16, fld "Ref" 9 3 24, fld "Lines" 67 4 40, fld "Void" 4 5 64] 0 (Int × Int × Int × ByteArray × List Ln × Bool × Unit) :=
  Flds.cons (f := fld "Id" 3 0 0) tInt rfl (Flds.cons (f := fld "Entity" 3 1 8) tInt rfl (Flds.cons (f := fld "Period" 3 2 16) tInt rfl
    (Flds.cons (f := fld "Ref" 9 3 24) tStr rfl (Flds.cons (f := fld "Lines" 67 4 40) tLns rfl (Flds.cons (f := fld "Void" 4 5 64) tBool rfl (Flds.nil _ _))))))
def tJn : Ty Tryz.prog 81 Jn := (Ty.struct Tryz.underlying81 fJn (by kernel_rfl)).map Jn.mk'
def tJns : Ty Tryz.prog 23 (List Jn) := Ty.slice Tryz.underlying23 (by kernel_rfl) tJn (by decide)

theorem tLn_n : tLn.n = 3 := rfl
theorem tJn_n : tJn.n = 6 := rfl
theorem ln_inv {w : World} {F : Nat → Prop} {cs : List Value} {o : Ln} (h : tLn.R w F cs o) : cs = [.int .i64 o.acc, .int .i64 o.amt, .int .i64 o.par] ∧ I64 o.acc ∧ I64 o.amt ∧ I64 o.par := by
  obtain ⟨x, rfl, c1, c2, rfl, ⟨rfl, h1⟩, c3, c4, rfl, ⟨rfl, h2⟩, c5, c6, rfl, ⟨rfl, h3⟩, rfl⟩ := h
  exact ⟨rfl, h1, h2, h3⟩
theorem ln_mk {w : World} {F : Nat → Prop} (o : Ln) (h1 : I64 o.acc) (h2 : I64 o.amt) (h3 : I64 o.par) : tLn.R w F [.int .i64 o.acc, .int .i64 o.amt, .int .i64 o.par] o :=
  ⟨(o.acc, o.amt, o.par, ()), rfl, [_], [_, _], rfl, ⟨rfl, h1⟩, [_], [_], rfl, ⟨rfl, h2⟩, [_], [], rfl, ⟨rfl, h3⟩, rfl⟩
theorem jn_inv {w : World} {F : Nat → Prop} {cs : List Value} {j : Jn} (h : tJn.R w F cs j) :
    ∃ a cap, cs = [.int .i64 j.id, .int .i64 j.en, .int .i64 j.pe, .string j.ref, .slice a j.lines.length cap, .bool j.void] ∧ I64 j.id ∧ I64 j.en ∧ I64 j.pe ∧ j.ref.size ≤ 140737488351232 ∧
      Sl tLn w F a j.lines ∧ j.lines.length ≤ cap ∧ cap ≤ maxLen ∧ j.lines.length * Tryz.prog.bytesOf 74 ≤ 140737488351232 := by
  obtain ⟨x, rfl, c1, c2, rfl, ⟨rfl, h1⟩, c3, c4, rfl, ⟨rfl, h2⟩, c5, c6, rfl, ⟨rfl, h3⟩, c7, c8, rfl, ⟨rfl, h4⟩, c9, c10, rfl, ⟨a, cap, rfl, h5⟩, c11, c12, rfl, rfl, rfl⟩ := h
  exact ⟨a, cap, rfl, h1, h2, h3, h4, h5⟩
theorem jn_mk {w : World} {F : Nat → Prop} (j : Jn) {a : Option Addr} {cap : Nat} (h1 : I64 j.id) (h2 : I64 j.en) (h3 : I64 j.pe) (h4 : j.ref.size ≤ 140737488351232) (h5 : Sl tLn w F a j.lines) (h6 : j.lines.length ≤ cap) (h7 : cap ≤ maxLen) (h8 : j.lines.length * Tryz.prog.bytesOf 74 ≤ 140737488351232) :
    tJn.R w F [.int .i64 j.id, .int .i64 j.en, .int .i64 j.pe, .string j.ref, .slice a j.lines.length cap, .bool j.void] j :=
  ⟨(j.id, j.en, j.pe, j.ref, j.lines, j.void, ()), rfl, [_], [_, _, _, _, _], rfl, ⟨rfl, h1⟩, [_], [_, _, _, _], rfl, ⟨rfl, h2⟩, [_], [_, _, _], rfl, ⟨rfl, h3⟩, [_], [_, _], rfl, ⟨rfl, h4⟩, [_], [_], rfl, ⟨a, cap, rfl, h5, h6, h7, h8⟩, [_], [], rfl, rfl, rfl⟩
theorem line_bytes : Tryz.prog.bytesOf 74 = 24 := by kernel_rfl
theorem journal_bytes : Tryz.prog.bytesOf 81 = 72 := by kernel_rfl

theorem ln_at {w : World} {F : Nat → Prop} {a : Option Addr} {l : List Ln} (h : Sl tLn w F a l) (i : Nat) (hi : i < l.length) :
    ∃ ad, a = some ad ∧ F ad.block ∧ ad.block < w.heap.size ∧ w.cell? (ad.add (i * 3)) = some (.int .i64 l[i].acc) ∧ w.cell? ⟨(ad.add (i * 3)).block, (ad.add (i * 3)).off + 1, none⟩ = some (.int .i64 l[i].amt) ∧
      w.cell? ⟨(ad.add (i * 3)).block, (ad.add (i * 3)).off + 2, none⟩ = some (.int .i64 l[i].par) ∧ I64 l[i].acc ∧ I64 l[i].amt ∧ I64 l[i].par := by
  obtain ⟨ad, ces, rfl, hf, hlt, hc, hr⟩ := h i l[i] (List.getElem?_eq_getElem hi)
  obtain ⟨rfl, h1, h2, h3⟩ := ln_inv hr
  rw [tLn_n] at hc
  refine ⟨ad, rfl, hf, hlt, ?_, ?_, ?_, h1, h2, h3⟩
  · have := hc 0 _ rfl
    simpa [Addr.add] using this
  · have := hc 1 _ rfl
    rw [Addr.add] at this
    simpa using this
  · have := hc 2 _ rfl
    rw [Addr.add] at this
    simpa using this

/-- a journal as a value, in a world -/
def IsJn (w : World) (F : Nat → Prop) (v : Value) (j : Jn) : Prop := ∃ cs, v = .agg cs.toArray ∧ tJn.R w F cs j
end Go.Proofs.YtgggpaacagbmcaaGreat

/- Frames: of what was there only some blocks may have turned. -/
set_option linter.unusedVariables false
set_option linter.unusedSimpArgs false
namespace Go.Proofs.YtgggpaacagbmcaaGreat
open Go.RowKit Go.Maps

/-- of what was there only the blocks of F may have turned -/
structure But (F : Nat → Prop) (w w' : World) : Prop where
  os : w'.os = w.os
  tape : w'.tape = w.tape
  output : w'.output = w.output
  size : w.heap.size ≤ w'.heap.size
  block : ∀ k, k < w.heap.size → ¬ F k → w'.heap[k]? = w.heap[k]?
section
variable {F G : Nat → Prop} {w w1 w2 : World}
theorem But.refl (F : Nat → Prop) (w : World) : But F w w := ⟨rfl, rfl, rfl, Nat.le_refl _, fun _ _ _ => rfl⟩
theorem But.trans (h : But F w w1) (k : But F w1 w2) : But F w w2 :=
  ⟨k.os.trans h.os, k.tape.trans h.tape, k.output.trans h.output, Nat.le_trans h.size k.size, fun i hi hf => (k.block i (Nat.lt_of_lt_of_le hi h.size) hf).trans (h.block i hi hf)⟩
theorem But.mono (h : But F w w1) (hi : ∀ k, k < w.heap.size → F k → G k) : But G w w1 := ⟨h.os, h.tape, h.output, h.size, fun k hk hg => h.block k hk (fun hf => hg (hi k hk hf))⟩
theorem But.of_below (h : Below w.heap.size w w1) (F : Nat → Prop) : But F w w1 := ⟨h.os, h.tape, h.output, h.size, fun k hk _ => h.block k hk⟩
theorem But.below (h : But F w w1) (hf : ∀ k, k < w.heap.size → ¬ F k) : Below w.heap.size w w1 := ⟨h.os, h.tape, h.output, h.size, fun k hk => h.block k hk (hf k hk)⟩
theorem But.drewN (h : But F w w1) (n : Nat) : But F w (w1.drewN n) := ⟨h.os, h.tape, h.output, h.size, h.block⟩
theorem But.drew (h : But F w w1) : But F w w1.drew := ⟨h.os, h.tape, h.output, h.size, h.block⟩
theorem But.alloc (h : But F w w1) (o : Obj) : But F w (w1.alloc o) := h.trans (.of_below ((Below.refl _ _).alloc (Nat.le_refl _) o) F)
theorem But.call (h : But F w w1) (hb : Below w1.heap.size w1 w2) : But F w w2 := h.trans (.of_below hb F)
theorem But.only {b : Nat} (h : But F w w1) (ho : OnlyB w1 w2 b) (hf : F b ∨ w.heap.size ≤ b) : But F w w2 :=
  ⟨ho.grown.os.trans h.os, ho.grown.tape.trans h.tape, ho.grown.output.trans h.output, by have := ho.size; have := h.size; omega, fun k hk hfk => by
    have hne : some k ≠ some b := by
      intro e
      injection e with e
      subst e
      rcases hf with hf | hf
      · exact hfk hf
      · omega
    exact (ho.grown.block k (Nat.lt_of_lt_of_le hk h.size) hne).trans (h.block k hk hfk)⟩
theorem But.setCell (h : But F w w1) {p : Addr} (hp : F p.block ∨ w.heap.size ≤ p.block) (u : Value) : But F w (w1.setCell p u) :=
  ⟨h.os, h.tape, h.output, by have := h.size; simpa [World.setCell] using this, fun k hk hfk => by
    have hne : k ≠ p.block := by
      intro e
      subst e
      rcases hp with hf | hf
      · exact hfk hf
      · omega
    exact (Below.heap_setCell w1 p u k hne).trans (h.block k hk hfk)⟩
theorem OnlyB.heap {b k : Nat} (ho : OnlyB w w1 b) (hk : k ≠ b) : w1.heap[k]? = w.heap[k]? := by
  by_cases hlt : k < w.heap.size
  · exact ho.grown.block k hlt (fun e => hk (by injection e))
  · have hs := ho.size
    rw [Array.getElem?_eq_none (by omega), Array.getElem?_eq_none (by omega)]
end

theorem But.grown {F : Nat → Prop} {w w1 w2 : World} {r : Option Nat} (h : But F w w1) (hg : w1.grownBy w2 r) (hf : ∀ k, r = some k → F k ∨ w.heap.size ≤ k) : But F w w2 :=
  ⟨hg.os.trans h.os, hg.tape.trans h.tape, hg.output.trans h.output, Nat.le_trans h.size hg.size, fun k hk hfk => by
    have hne : some k ≠ r := by
      intro e
      rcases hf k e.symm with hf | hf
      · exact hfk hf
      · omega
    exact (hg.block k (Nat.lt_of_lt_of_le hk h.size) hne).trans (h.block k hk hfk)⟩
end Go.Proofs.YtgggpaacagbmcaaGreat
