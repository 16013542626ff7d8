/- variorumbook: the Book with balances alone; one more list is kept. -/
import Derived.Test.YtacemlbfifhllaaGreatX32GatesPlay
set_option linter.unusedVariables false
set_option linter.unusedSimpArgs false
namespace Go.Proofs.YtacemlbfifhllaaGreat
open Go.RowKit Go.Maps Go.Deep

/-- the Book's cells: balances alone -/
def bookB (s t : Value) : Array Value := #[.slice none 0 0, .slice none 0 0, .slice none 0 0, .slice none 0 0, .slice none 0 0, .slice none 0 0, s, t, .slice none 0 0, .slice none 0 0, .slice none 0 0, .slice none 0 0, .slice none 0 0, .slice none 0 0, .slice none 0 0, .slice none 0 0, .slice none 0 0, .slice none 0 0, .slice none 0 0, .slice none 0 0]
/-- a Book that keeps the lists L of balances: vs, and the copies us -/
structure KeptB (w : World) (b base : Nat) (s t : Value) (vs us : List Value) (L : List (List (Int × Int))) : Prop where
  cell : w.heap[b]? = some (.cells (bookB s t) 41 (0, 0))
  bb : b < base
  os : OwnL tBalV w base s vs
  ot : OwnL tBalV w base t us
  lv : Lots tBal w base vs L
  lu : Lots tBal w base us L
  st : ApartV s t
  sv : ∀ v ∈ vs, ApartV s v
  su : ∀ v ∈ us, ApartV s v
  tv : ∀ v ∈ vs, ApartV t v
  tu : ∀ v ∈ us, ApartV t v
  vu : ∀ v ∈ vs, ∀ u ∈ us, ApartV v u
/-- of what was there only block b and the row of s may have turned -/
def Fr (w w' : World) (b : Nat) (s : Value) : Prop := w.heap.size ≤ w'.heap.size ∧ ∀ k, k < w.heap.size → k ≠ b → some k ≠ s.ownBlock → w'.heap[k]? = w.heap[k]?
section
variable {P : Program} {e : TypeId} {α : Type} {T : Ty P e α} {w w' : World} {b base : Nat} {y s : Value} {xs : List α}
theorem OwnL.fr (hfr : Free T) (ho : OwnL T w base y xs) (hb : b < base) (h : Fr w w' b s) (hap : ApartV s y) : OwnL T w' base y xs := by
  have hlt := ho.lt
  refine ho.keepF hfr (fun k hk => h.2 k (hlt k hk).2 (by have := (hlt k hk).1; omega) (fun e2 => ?_))
  rcases hap with h1 | h1
  · rw [h1] at e2; cases e2
  · exact h1 (by rw [hk, e2])
theorem Lots.fr {vs : List Value} {L : List (List α)} (hfr : Free T) (ho : Lots T w base vs L) (hb : b < base) (h : Fr w w' b s) (hap : ∀ v ∈ vs, ApartV s v) : Lots T w' base vs L :=
  ⟨ho.len, fun i v l hv hl => (ho.own i v l hv hl).fr hfr hb h (hap v (List.mem_of_getElem? hv)), ho.apart⟩
end
/-- new rows are apart from all that was there -/
theorem apart_new {u v : Value} {n : Nat} (hu : ∀ k, u.ownBlock = some k → n ≤ k) (hv : ∀ k, v.ownBlock = some k → k < n) : ApartV u v := by
  cases h : u.ownBlock with
  | none => exact .inl h
  | some k => exact .inr (fun e => by
    rw [h] at e
    have h1 := hu k h
    have h2 := hv k e.symm
    omega)
theorem apart_turn {u u' v : Value} {n : Nat} (h : ApartV u v) (hat : u'.ownBlock = u.ownBlock ∨ ∀ k, u'.ownBlock = some k → n ≤ k) (hv : ∀ k, v.ownBlock = some k → k < n) : ApartV u' v := by
  rcases hat with e | e
  · unfold ApartV
    rw [e]
    exact h
  · exact apart_new e hv
theorem KeptB.add {w w4 w6 : World} {b base : Nat} {s t s' t' x x' : Value} {vs us : List Value} {L : List (List (Int × Int))} {l : List (Int × Int)} (h : KeptB w b base s t vs us L) (hx : OwnL tBal w base x l)
    (xs : ApartV s x) (xt : ApartV t x) (xv : ∀ v ∈ vs, ApartV v x) (xu : ∀ v ∈ us, ApartV v x)
    (F1 : Fr w w4 b s) (os : OwnL tBalV w4 base s' (vs ++ [x])) (as_ : s'.ownBlock = s.ownBlock ∨ ∀ k, s'.ownBlock = some k → w.heap.size ≤ k)
    (F2 : Fr w4 w6 b t) (ox : OwnL tBal w6 base x' l) (nx : ∀ k, x'.ownBlock = some k → w4.heap.size ≤ k) (ot : OwnL tBalV w6 base t' (us ++ [x'])) (at_ : t'.ownBlock = t.ownBlock ∨ ∀ k, t'.ownBlock = some k → w4.heap.size ≤ k) (tx : ApartV t' x')
    (cell : w6.heap[b]? = some (.cells (bookB s' t') 41 (0, 0))) : KeptB w6 b base s' t' (vs ++ [x]) (us ++ [x']) (L ++ [l]) := by
  have l4 : ∀ (v : Value), (∀ k, v.ownBlock = some k → k < w.heap.size) → ∀ k, v.ownBlock = some k → k < w4.heap.size := fun v hv k hk => Nat.lt_of_lt_of_le (hv k hk) F1.1
  have ltv : ∀ v ∈ vs, ∀ k, v.ownBlock = some k → k < w.heap.size := fun v hv k hk => (h.lv.lt hv k hk).2
  have ltu : ∀ v ∈ us, ∀ k, v.ownBlock = some k → k < w.heap.size := fun v hv k hk => (h.lu.lt hv k hk).2
  have ltx : ∀ k, x.ownBlock = some k → k < w.heap.size := fun k hk => (hx.lt k hk).2
  have ltt : ∀ k, t.ownBlock = some k → k < w.heap.size := fun k hk => (h.ot.lt k hk).2
  have lts' : ∀ k, s'.ownBlock = some k → k < w4.heap.size := fun k hk => (os.lt k hk).2
  have s't : ApartV s' t := apart_turn h.st as_ ltt
  have t's' : ApartV t' s' := apart_turn s't.symm at_ lts'
  have lv4 : Lots tBal w4 base (vs ++ [x]) (L ++ [l]) := (h.lv.fr bal_Free h.bb F1 h.sv).snoc (hx.fr bal_Free h.bb F1 xs) xv
  have lu4 : Lots tBal w4 base us L := h.lu.fr bal_Free h.bb F1 h.su
  have tvx : ∀ v ∈ vs ++ [x], ApartV t v := fun v hv => by
    rcases List.mem_append.1 hv with hv | hv
    · exact h.tv v hv
    · simp at hv; subst hv; exact xt
  have ltvx : ∀ v ∈ vs ++ [x], ∀ k, v.ownBlock = some k → k < w.heap.size := fun v hv => by
    rcases List.mem_append.1 hv with hv | hv
    · exact ltv v hv
    · simp at hv; subst hv; exact ltx
  refine ⟨cell, h.bb, os.fr balV_Free h.bb F2 s't.symm, ot, lv4.fr bal_Free h.bb F2 tvx, (lu4.fr bal_Free h.bb F2 h.tu).snoc ox (fun u hu => (apart_new nx (l4 u (ltu u hu))).symm), t's'.symm, fun v hv => ?_, fun v hv => ?_, fun v hv => apart_turn (tvx v hv) at_ (l4 v (ltvx v hv)), fun v hv => ?_, fun v hv u hu => ?_⟩
  · rcases List.mem_append.1 hv with hv | hv
    · exact apart_turn (h.sv v hv) as_ (ltv v hv)
    · simp at hv; subst hv; exact apart_turn xs as_ ltx
  · rcases List.mem_append.1 hv with hv | hv
    · exact apart_turn (h.su v hv) as_ (ltu v hv)
    · simp at hv; subst hv; exact (apart_new nx lts').symm
  · rcases List.mem_append.1 hv with hv | hv
    · exact apart_turn (h.tu v hv) at_ (l4 v (ltu v hv))
    · simp at hv; subst hv; exact tx
  · rcases List.mem_append.1 hu with hu | hu
    · rcases List.mem_append.1 hv with hv | hv
      · exact h.vu v hv u hu
      · simp at hv; subst hv; exact (xu u hu).symm
    · simp at hu; subst hu
      exact (apart_new nx (l4 v (ltvx v hv))).symm
/-- what keeping a list turned: block b, the rows of s and t; the new ones are new, or those -/
structure KFr (w w' : World) (b : Nat) (s t s' t' x' : Value) : Prop where
  size : w.heap.size ≤ w'.heap.size
  keep : ∀ k, k < w.heap.size → k ≠ b → some k ≠ s.ownBlock → some k ≠ t.ownBlock → w'.heap[k]? = w.heap[k]?
  sn : s'.ownBlock = s.ownBlock ∨ ∀ k, s'.ownBlock = some k → w.heap.size ≤ k
  tn : t'.ownBlock = t.ownBlock ∨ ∀ k, t'.ownBlock = some k → w.heap.size ≤ k
  xn : ∀ k, x'.ownBlock = some k → w.heap.size ≤ k
section
variable {P : Program} {e : TypeId} {α : Type} {T : Ty P e α} {w w' : World} {b base : Nat} {s t s' t' x' y : Value} {xs : List α}
theorem KFr.own (hfr : Free T) (hk : KFr w w' b s t s' t' x') (ho : OwnL T w base y xs) (hb : b < base) (hs : ApartV s y) (ht : ApartV t y) : OwnL T w' base y xs := by
  have hlt := ho.lt
  refine ho.keepF hfr (fun k h => hk.keep k (hlt k h).2 (by have := (hlt k h).1; omega) (fun e2 => ?_) (fun e2 => ?_))
  · rcases hs with h1 | h1
    · rw [h1] at e2; cases e2
    · exact h1 (by rw [h, e2])
  · rcases ht with h1 | h1
    · rw [h1] at e2; cases e2
    · exact h1 (by rw [h, e2])
theorem KFr.far (hk : KFr w w' b s t s' t' x') (hy : ∀ k, y.ownBlock = some k → k < w.heap.size) (hs : ApartV s y) (ht : ApartV t y) : ApartV s' y ∧ ApartV t' y ∧ ApartV x' y :=
  ⟨apart_turn hs hk.sn hy, apart_turn ht hk.tn hy, apart_new hk.xn hy⟩
end
/-- a value that may be kept: apart from all that is -/
def Out (s t : Value) (vs us : List Value) (x : Value) : Prop := ApartV s x ∧ ApartV t x ∧ (∀ v ∈ vs, ApartV v x) ∧ ∀ v ∈ us, ApartV v x
theorem KeptB.fresh {w : World} {b base : Nat} {s t x : Value} {vs us : List Value} {L : List (List (Int × Int))} (h : KeptB w b base s t vs us L) (hx : ∀ k, x.ownBlock = some k → w.heap.size ≤ k) : Out s t vs us x :=
  ⟨(apart_new hx (fun k hk => (h.os.lt k hk).2)).symm, (apart_new hx (fun k hk => (h.ot.lt k hk).2)).symm, fun v hv => (apart_new hx (fun k hk => (h.lv.lt hv k hk).2)).symm, fun v hv => (apart_new hx (fun k hk => (h.lu.lt hv k hk).2)).symm⟩
theorem Out.next {w w' : World} {b : Nat} {s t s' t' x x' y : Value} {vs us : List Value} (h : Out s t vs us y) (hk : KFr w w' b s t s' t' x') (hy : ∀ k, y.ownBlock = some k → k < w.heap.size) (hxy : ApartV x y) : Out s' t' (vs ++ [x]) (us ++ [x']) y := by
  obtain ⟨h1, h2, h3⟩ := hk.far hy h.1 h.2.1
  refine ⟨h1, h2, fun v hv => ?_, fun v hv => ?_⟩
  · rcases List.mem_append.1 hv with hv | hv
    · exact h.2.2.1 v hv
    · simp at hv; subst hv; exact hxy
  · rcases List.mem_append.1 hv with hv | hv
    · exact h.2.2.2 v hv
    · simp at hv; subst hv; exact h3
theorem apart_none (v : Value) : ApartV v (.slice none 0 0) := ApartV.symm (.inl rfl)
end Go.Proofs.YtacemlbfifhllaaGreat
