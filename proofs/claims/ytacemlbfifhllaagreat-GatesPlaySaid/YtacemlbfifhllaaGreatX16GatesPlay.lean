/- Maps with whole numbers as keys. -/
import Derived.Test.YtacemlbfifhllaaGreatX02GatesPlay
import Derived.Test.YtacemlbfifhllaaGreatX03GatesPlay
import Derived.Test.YtacemlbfifhllaaGreatX15GatesPlay
import Derived.Test.YtacemlbfifhllaaGreatX09GatesPlay
import Derived.Test.YtacemlbfifhllaaGreatX05GatesPlay
import Derived.Shelf.AbstractIn
import Derived.Shelf.SlIterI.Keys
import Derived.Shelf.SlIterI.Collect
import Derived.Shelf.SlIterI.Sorted
import Derived.Shelf.SortM.Plain
import Derived.Shelf.SortM.SortNone
set_option linter.unusedVariables false
set_option linter.unusedSimpArgs false
namespace Go.Proofs.YtacemlbfifhllaaGreat
open Go.RowKit Go.Maps

def mInt : MK Tryz.prog 3 Int where
  K := int_keyed Tryz.underlying3
  ek := fun k => .int .i64 k
  ok := fun k => I64 k
  key := fun k h => ⟨_, keyOf_int_mk Tryz.underlying3 h⟩
  inj := by
    intro a b h
    simpa using h
theorem zeroI (w : World) : (zeroValue 3).run Tryz.prog w = .ok (.int .i64 0) w := by kernel_rfl
/-- what stands under a key: 0, if nothing -/
def at0 (s : List (Int × Int)) (k : Int) : Int := (look s k).getD 0
theorem lookI {T : TypeId} {w : World} {b : Nat} {s : List (Int × Int)} (h : MapIs mInt (Value.int .i64) w b s) (ht : Tryz.prog.underlying T = some (.map 3 3)) {k : Int} (hk : I64 k) (W : World) (hW : W.heap[b]? = w.heap[b]?) :
    (Instr.lookup T (.map (some b)) (.int .i64 k) false).run Tryz.prog W = .ok (.int .i64 (at0 s k)) W := by
  have := (h.keep (w' := W) hW).lookup ht (k := k) hk (zeroI W)
  rw [show mInt.ek k = .int .i64 k from rfl] at this
  rw [this]
  unfold at0
  cases look s k <;> rfl
theorem wrap64_wf (n : Int) : I64 (wrap64 n) := by
  unfold I64 Lit.wf wrap64
  simp [IntKind.min, IntKind.max, IntKind.bits, IntKind.signed]
  omega
/-- an amount added under a key -/
def sAdd (s : List (Int × Int)) (k v : Int) : List (Int × Int) := ins s k (wrap64 (at0 s k + v))
theorem sAdd_vals {s : List (Int × Int)} (h : ∀ x ∈ s, I64 x.2) (k v : Int) : ∀ x ∈ sAdd s k v, I64 x.2 := by
  intro x hx
  rcases mem_ins hx with rfl | hx
  · exact wrap64_wf _
  · exact h x hx
end Go.Proofs.YtacemlbfifhllaaGreat


/- trial: right, counts, account, partner. -/
set_option linter.unusedVariables false
set_option linter.unusedSimpArgs false
namespace Go.Proofs.YtacemlbfifhllaaGreat
open Go.RowKit Go.Maps

theorem sl_two (x y : Int) (b : Nat) (W : World) (hb : W.heap[b]? = some (.cells #[.int .i64 x, .int .i64 y] 3 (0, 0))) (wx : I64 x) (wy : I64 y) : Sl tInt W (fun _ => True) (some ⟨b, 0, none⟩) [x, y] := by
  intro i u hi
  have hlt : b < W.heap.size := (Array.getElem?_eq_some_iff.1 hb).1
  have hcell := fun o => cell_of_row W b o #[.int .i64 x, .int .i64 y] 3 (0, 0) hb
  match i, hi with
  | 0, hi =>
    simp at hi; subst hi
    refine ⟨_, [.int .i64 x], rfl, trivial, hlt, fun j v hv => ?_, rfl, wx⟩
    cases j with
    | zero => simp at hv; subst hv; exact hcell 0
    | succ j => simp at hv
  | 1, hi =>
    simp at hi; subst hi
    refine ⟨_, [.int .i64 y], rfl, trivial, hlt, fun j v hv => ?_, rfl, wy⟩
    cases j with
    | zero => simp at hv; subst hv; exact hcell 1
    | succ j => simp at hv
theorem valid2 (x y : Int) (b : Nat) (W : World) (hb : W.heap[b]? = some (.cells #[.int .i64 x, .int .i64 y] 3 (0, 0))) (wx : I64 x) (wy : I64 y) {r : Bool} (hr : (monthOk x && monthOk y) = r) :
    Calls Tryz.prog 66 #[.slice (some ⟨b, 0, none⟩) 2 2] W fun e w' => e = .returned (.bool r) ∧ Below W.heap.size W w' := by
  have := term_valid (some ⟨b, 0, none⟩) 2 [x, y] W (by simp only [List.length_cons, List.length_nil]; omega) (sl_two x y b W hb wx wy)
  simp only [List.all_cons, List.all_nil, Bool.and_true] at this
  rwa [hr] at this

def rightB (e f t : Int) : Bool := entB e && ((monthOk f && monthOk t) && decide (f ≤ t))
theorem right_cases {e f t : Int} {b : Bool} (h : rightB e f t = b) : (b = false ∧ (e < 1 ∨ 1 ≤ e ∧ (9 < e ∨ e ≤ 9 ∧ ((monthOk f && monthOk t) = false ∨ (monthOk f && monthOk t) = true ∧ decide (f ≤ t) = false)))) ∨
    (b = true ∧ 1 ≤ e ∧ e ≤ 9 ∧ (monthOk f && monthOk t) = true ∧ f ≤ t) := by
  subst h
  unfold rightB entB
  cases (monthOk f && monthOk t) with
  | false => simp only [Bool.false_and, Bool.and_false, true_and, Bool.false_eq_true, false_and, true_or, and_true, or_false]; omega
  | true =>
    by_cases h1 : 1 ≤ e <;> by_cases h2 : e ≤ 9 <;> by_cases h3 : f ≤ t <;> simp [h1, h2, h3] <;> omega

abbrev tofv (e f t : Int) : Value := .agg #[.int .i64 e, .int .i64 f, .int .i64 t]
/-- does a journal count? -/
def cnt (e f t : Int) (j : Jn) : Bool := !j.void && (j.en == e && (decide (f ≤ j.pe) && decide (j.pe ≤ t)))
theorem cnt_cases {e f t : Int} {j : Jn} {b : Bool} (h : cnt e f t j = b) : (b = false ∧ (j.void = true ∨ j.void = false ∧ ((j.en == e) = false ∨ (j.en == e) = true ∧ (decide (f ≤ j.pe) = false ∨ decide (f ≤ j.pe) = true ∧ decide (j.pe ≤ t) = false)))) ∨
    (b = true ∧ j.void = false ∧ (j.en == e) = true ∧ f ≤ j.pe ∧ j.pe ≤ t) := by
  subst h
  unfold cnt
  cases j.void <;> cases j.en == e <;> by_cases h3 : f ≤ j.pe <;> by_cases h4 : j.pe ≤ t <;> simp [h3, h4] <;> omega
def AddPost (w : World) (b : Nat) (s' : List (Int × Int)) (e : Ending) (w' : World) : Prop :=
  e = .returned (.tuple #[]) ∧ MapIs mInt (Value.int .i64) w' b s' ∧ But (· = b) w w'

def sPar (s : List (Int × Int)) (l : Ln) : List (Int × Int) := if l.par == 0 then s else sAdd s l.par l.amt
end Go.Proofs.YtacemlbfifhllaaGreat


/- trial: each, of. -/
set_option linter.unusedVariables false
set_option linter.unusedSimpArgs false
namespace Go.Proofs.YtacemlbfifhllaaGreat
open Go.RowKit Go.Maps

def linesOf (l : List Jn) (e f t : Int) : List Ln := (l.filter (cnt e f t)).flatMap (·.lines)
theorem linesOf_succ (e f t : Int) (l : List Jn) (n : Nat) (hn : n < l.length) : linesOf (l.take (n + 1)) e f t = linesOf (l.take n) e f t ++ (if cnt e f t l[n] then l[n].lines else []) := by
  unfold linesOf
  rw [List.take_succ_eq_append_getElem hn, List.filter_append, List.flatMap_append]
  cases h : cnt e f t l[n] <;> simp [h]
def accS (s : List (Int × Int)) (ls : List Ln) : List (Int × Int) := ls.foldl (fun s x => sAdd s x.acc x.amt) s
def parS (s : List (Int × Int)) (ls : List Ln) : List (Int × Int) := ls.foldl sPar s
theorem But.toBelow {F : Nat → Prop} {B : Nat} {w w1 w2 : World} (hb : Below B w w1) (h : But F w1 w2) (hF : ∀ k, F k → B ≤ k) (hB : B ≤ w1.heap.size) : Below B w w2 :=
  ⟨h.os.trans hb.os, h.tape.trans hb.tape, h.output.trans hb.output, Nat.le_trans hb.size h.size, fun k hk => (h.block k (Nat.lt_of_lt_of_le hk hB) (fun hf => by have := hF k hf; omega)).trans (hb.block k hk)⟩

def SumPost (w : World) (s : List (Int × Int)) (e : Ending) (w' : World) : Prop := ∃ bm, e = .returned (.map (some bm)) ∧ MapIs mInt (Value.int .i64) w' bm s ∧ Below w.heap.size w w'
end Go.Proofs.YtacemlbfifhllaaGreat


/- slices.Sorted of maps.Keys at whole numbers. -/
set_option linter.unusedVariables false
set_option linter.unusedSimpArgs false
namespace Go.Proofs.YtacemlbfifhllaaGreat
open Go.RowKit Go.Maps Go.Sort Go.Shelf Go.Proofs



def srt (l : List Int) : List Int := l.mergeSort (fun x y => decide (x ≤ y))
theorem srt_perm {a b : List Int} (h : a.Perm b) : srt a = srt b := by
  unfold srt
  have tr : ∀ (x y z : Int), decide (x ≤ y) = true → decide (y ≤ z) = true → decide (x ≤ z) = true := by
    intro x y z h1 h2
    simp at *
    omega
  have to : ∀ (x y : Int), (decide (x ≤ y) || decide (y ≤ x)) = true := by
    intro x y
    simp
    omega
  refine List.Perm.eq_of_pairwise (le := fun a b => decide (a ≤ b) = true) (fun a b _ _ h1 h2 => ?_) (List.pairwise_mergeSort tr to a) (List.pairwise_mergeSort tr to b) (((List.mergeSort_perm a _).trans h).trans (List.mergeSort_perm b _).symm)
  simp at h1 h2
  omega
theorem srt_mem {l : List Int} {x : Int} : x ∈ srt l ↔ x ∈ l := (List.mergeSort_perm l _).mem_iff
theorem srt_len (l : List Int) : (srt l).length = l.length := (List.mergeSort_perm l _).length_eq

theorem own_ints {w : World} {base : Nat} {v : Value} {ks : List Int} (h : w.ownsRow base 3 1 v ks.length (ks.map encZ)) (hk : ∀ k ∈ ks, I64 k) : OwnL tInt w base v ks := by
  refine ⟨ks.map fun k => [encZ k], ?_, by simp, ?_, ?_⟩
  · have flat1 : ∀ (l : List Int), (l.map fun k => [encZ k]).flatten = l.map encZ := by
      intro l
      induction l with
      | nil => rfl
      | cons x r ih => simp [ih]
    rw [flat1]
    exact h
  · intro c hc
    obtain ⟨k, _, rfl⟩ := List.mem_map.1 hc
    rfl
  · intro i c x hi hx
    rw [List.getElem?_map, hx] at hi
    simp at hi
    subst hi
    exact ⟨rfl, hk x (List.mem_of_getElem? hx)⟩

def SrtPost (w : World) (keys : List Int) (e : Ending) (w' : World) : Prop := ∃ v, e = .returned v ∧ OwnL tInt w' w.heap.size v (srt keys) ∧ Below w.heap.size w w'
end Go.Proofs.YtacemlbfifhllaaGreat
