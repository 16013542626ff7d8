/- book: slices.Insert behind the last one, Post behind the last one. -/
import Derived.Test.YtacemlbfifhllaaGreatX07GatesPlay
import Derived.Test.YtacemlbfifhllaaGreatX08GatesPlay
import Derived.Deep.RegionWith
set_option linter.unusedVariables false
set_option linter.unusedSimpArgs false
namespace Go.Proofs.YtacemlbfifhllaaGreat
open Go.RowKit Go.Maps

theorem OwnF.form {P : Program} {e : TypeId} {α : Type} {T : Ty P e α} {w : World} {base : Nat} {F : Nat → Prop} {v : Value} {xs : List α} (h : OwnF T w base F v xs) :
    (v = .slice none 0 0 ∧ xs = []) ∨ ∃ g cap, v = .slice (some ⟨g, 0, none⟩) xs.length cap ∧ xs.length ≤ cap ∧ cap ≤ maxLen := by
  obtain ⟨css, h1, _⟩ := h
  rcases h1.2 with ⟨rfl, h0⟩ | ⟨g, cap, cur, rfl, _, _, h2, h3, _⟩
  · exact .inl ⟨rfl, List.length_eq_zero_iff.1 h0⟩
  · exact .inr ⟨g, cap, rfl, h2, h3⟩

theorem cells_oneJ {w : World} {F : Nat → Prop} {b : Nat} {j : Jn} {a : Option Addr} {cap : Nat} (hb : w.heap[b]? = some (.cells #[.int .i64 j.id, .int .i64 j.en, .int .i64 j.pe, .string j.ref, .slice a j.lines.length cap, .bool j.void] 120 (0, 0)))
    (hr : tJn.R w F (jcs j a cap) j) : ∀ i x, [j][i]? = some x → ∃ ces, (∀ k u, ces[k]? = some u → w.cell? (((⟨b, 0, none⟩ : Addr).add (i * tJn.n)).add k) = some u) ∧ tJn.R w F ces x := by
  intro i x hi
  cases i with
  | succ i => simp at hi
  | zero =>
    simp at hi
    subst hi
    refine ⟨jcs j a cap, fun k u hu => ?_, hr⟩
    rw [Nat.zero_mul, Go.Addr.add_add, Nat.zero_add]
    have : (⟨b, 0, none⟩ : Addr).add k = ⟨b, k, none⟩ := by unfold Addr.add; split <;> simp_all
    rw [this, cell_of_row w b k _ 120 (0, 0) hb]
    simpa using hu

def InsPost (w : World) (base : Nat) (F : Nat → Prop) (v : Value) (xs : List Jn) (e : Ending) (w' : World) : Prop :=
  ∃ v', e = .returned v' ∧ OwnF tJn w' base F v' xs ∧ w.grownBy w' v.ownBlock ∧ (v'.ownBlock = v.ownBlock ∨ v'.ownBlock = some w.heap.size)

theorem chk_id {j : Jn} (h : chk j = 0) : 1 ≤ j.id ∧ j.id ≤ 999999 ∧ j.lines ≠ [] := by
  have hf : frontBad j = false := by
    cases hh : frontBad j with
    | false => rfl
    | true => simp [chk, hh] at h
  obtain ⟨h1, h2, _, _, _, _, h7, _⟩ := front_ok hf
  refine ⟨h1, h2, fun he => ?_⟩
  rw [he] at h7
  simp at h7

theorem ins_base {w w5 : World} {base : Nat} (h : Below w.heap.size w w5) (hb : base ≤ w.heap.size) (o : Obj) : base ≤ (w5.alloc o).heap.size := by
  have := h.size
  simp
  omega
theorem ins_elem {w w4 w5 : World} {base g : Nat} {v : Value} {l : List Jn} {j : Jn} {a5 : Option Addr} {c5 : Nat} (hr : tJn.R w5 (fun k => w4.heap.size ≤ k ∧ k < w5.heap.size) (jcs j a5 c5) j) (hb : Below w.heap.size w w4) (ho : OwnF tJn w4 base (fun k => base ≤ k ∧ k ≠ g) v l) (hbase : base ≤ w.heap.size) (hg : g < w4.heap.size) (o : Obj) :
    tJn.R (w5.alloc o) (fun k => (base ≤ k ∧ k ≠ g) ∧ some k ≠ v.ownBlock ∧ k < (w5.alloc o).heap.size) (jcs j a5 c5) j := by
  have hs := hb.size
  refine tJn.mono (fun k hk hf => ⟨⟨?_, ?_⟩, fun e => ?_, hk⟩) (tJn.keep (fun k hk _ => Below.heap_alloc w5 _ k hk) hr)
  · have := hf.1; omega
  · have := hf.1; omega
  · have := (ho.lt k e.symm).2
    have := hf.1
    omega
theorem ins_below {w w5 w6 : World} {base g : Nat} {F : Nat → Prop} {o : Obj} {v u : Value} {l : List Jn} (h : Below w.heap.size w w5) (hb : base ≤ w.heap.size) (hg : (w5.alloc o).grownBy w6 v.ownBlock) (ho : OwnF tJn w5 base F v l) (hge : base ≤ g) :
    Below base w (w6.setCell ⟨g, 0, none⟩ u) := by
  have hs := h.size
  have h1 : Below base w (w5.alloc o) := (h.mono hb).alloc (by omega) o
  exact (h1.grown hg (by simp; omega) (fun k e => (ho.lt k e).1)).setCell hge u
end Go.Proofs.YtacemlbfifhllaaGreat


/- book.Of, law6.Of at journals in the order of their numbers. -/
set_option linter.unusedVariables false
set_option linter.unusedSimpArgs false
namespace Go.Proofs.YtacemlbfifhllaaGreat
open Go.RowKit Go.Maps

def IncJ (l : List Jn) : Prop := ∀ i k (hi : i < l.length) (hk : k < l.length), i < k → l[i].id < l[k].id
def ofFrom : List Jn → List Jn → Bool
  | _, [] => true
  | d, x :: r => postJ d x == 0 && ofFrom (d ++ [x]) r
def ofB (l : List Jn) : Bool := ofFrom [] l

theorem ofFrom_step {l : List Jn} {n : Nat} (h : n < l.length) : ofFrom (l.take n) (l.drop n) = (postJ (l.take n) l[n] == 0 && ofFrom (l.take (n + 1)) (l.drop (n + 1))) := by
  rw [List.drop_eq_getElem_cons h, ofFrom, List.take_succ_eq_append_getElem h]

theorem ordJ_step {l : List Jn} (hi : IncJ l) {n : Nat} (h : n < l.length) (hO : OrdJ (l.take n)) (hc : postJ (l.take n) l[n] = 0) : OrdJ (l.take (n + 1)) := by
  have hk : chk l[n] = 0 := by
    rcases post_cases (l.take n) l[n] with ⟨h1, h2⟩ | ⟨h1, _⟩
    · rw [hc] at h2; exact h2.symm
    · simpa using h1
  refine ⟨fun i k h1 h2 hik => ?_, fun x hx => ?_⟩
  · simp only [List.length_take] at h1 h2
    rw [List.getElem_take, List.getElem_take]
    exact hi i k (by omega) (by omega) hik
  · rw [List.take_succ_eq_append_getElem h] at hx
    rcases List.mem_append.1 hx with hx | hx
    · exact hO.ok x hx
    · simp at hx
      subst hx
      exact ⟨(chk_id hk).1, (chk_id hk).2.1⟩
theorem inc_new {l : List Jn} (hi : IncJ l) {n : Nat} (h : n < l.length) : ∀ x ∈ l.take n, x.id < l[n].id := by
  intro x hx
  obtain ⟨t, ht, rfl⟩ := List.getElem_of_mem hx
  simp only [List.length_take] at ht
  rw [List.getElem_take]
  exact hi t n (by omega) h (by omega)

end Go.Proofs.YtacemlbfifhllaaGreat


/- book: All, Get. -/
set_option linter.unusedVariables false
set_option linter.unusedSimpArgs false
namespace Go.Proofs.YtacemlbfifhllaaGreat
open Go.RowKit Go.Maps

theorem app_cells {w2 : World} {x : Jn} {la : Option Addr} {lc : Nat} {base B : Nat} {F : Nat → Prop} {vo : Value} {O : List Jn} (hr : tJn.R w2 (fun k => B ≤ k ∧ k < w2.heap.size) (jcs x la lc) x) (hB : ∀ k, vo.ownBlock = some k → k < B) (hF : ∀ k, B ≤ k → F k) (o : Obj)
    (ho : o = .cells #[.int .i64 x.id, .int .i64 x.en, .int .i64 x.pe, .string x.ref, .slice la x.lines.length lc, .bool x.void] 120) :
    ∀ i y, [x][i]? = some y → ∃ ces, (∀ k u, ces[k]? = some u → (w2.alloc o).cell? (((⟨w2.heap.size, 0, none⟩ : Addr).add (i * tJn.n)).add k) = some u) ∧ tJn.R (w2.alloc o) (fun k => F k ∧ some k ≠ vo.ownBlock ∧ k < (w2.alloc o).heap.size) ces y := by
  subst ho
  refine cells_oneJ (a := la) (cap := lc) (blk_new w2 _) ?_
  refine tJn.mono (fun k hk hf => ⟨hF k hf.1, fun e => ?_, hk⟩) (tJn.keep (fun k hk _ => Below.heap_alloc w2 _ k hk) hr)
  have := hB _ e.symm
  have hf' := hf.1
  omega

def AllPostJ (w : World) (l : List Jn) (e : Ending) (w' : World) : Prop :=
  ∃ v, e = .returned v ∧ OwnF tJn w' w.heap.size (fun k => w.heap.size ≤ k) v l ∧ Below w.heap.size w w'

end Go.Proofs.YtacemlbfifhllaaGreat
