/- The first call of law 10 is as the document fixes it. -/
import Derived.Test.YtacemlbfifhllaaGreatX19GatesPlay
import Derived.Test.YtacemlbfifhllaaGreatX20GatesPlay
set_option linter.unusedVariables false
set_option linter.unusedSimpArgs false
namespace Go.Proofs.YtacemlbfifhllaaGreat
open Go.RowKit Go.Maps

theorem sl_lines2 {w : World} {F : Nat → Prop} {b : Nat} (x y : Ln) (hb : w.heap[b]? = some (.cells #[.int .i64 x.acc, .int .i64 x.amt, .int .i64 x.par, .int .i64 y.acc, .int .i64 y.amt, .int .i64 y.par] 134 (0, 0))) (hF : F b)
    (hx : I64 x.acc ∧ I64 x.amt ∧ I64 x.par) (hy : I64 y.acc ∧ I64 y.amt ∧ I64 y.par) : Sl tLn w F (some ⟨b, 0, none⟩) [x, y] := by
  have hlt : b < w.heap.size := (Array.getElem?_eq_some_iff.1 hb).1
  have hcell := fun o => cell_of_row w b o _ 134 (0, 0) hb
  intro i u hi
  match i, hi with
  | 0, hi =>
    simp at hi; subst hi
    refine ⟨_, [.int .i64 x.acc, .int .i64 x.amt, .int .i64 x.par], rfl, hF, hlt, fun j v hv => ?_, ln_mk x hx.1 hx.2.1 hx.2.2⟩
    match j, hv with
    | 0, hv => simp at hv; subst hv; exact hcell 0
    | 1, hv => simp at hv; subst hv; exact hcell 1
    | 2, hv => simp at hv; subst hv; exact hcell 2
  | 1, hi =>
    simp at hi; subst hi
    refine ⟨_, [.int .i64 y.acc, .int .i64 y.amt, .int .i64 y.par], rfl, hF, hlt, fun j v hv => ?_, ln_mk y hy.1 hy.2.1 hy.2.2⟩
    match j, hv with
    | 0, hv => simp at hv; subst hv; exact hcell 3
    | 1, hv => simp at hv; subst hv; exact hcell 4
    | 2, hv => simp at hv; subst hv; exact hcell 5

def aliveJ : Jn := ⟨1, 1, 3, ⟨#[]⟩, [⟨100, 5, 0⟩, ⟨200, -5, 0⟩], false⟩
theorem alive_chk : chk aliveJ = 0 := by decide +kernel
theorem alive_val : ValJ [aliveJ] := ⟨by simp, by intro x hx; simp at hx; subst hx; exact alive_chk, by
  intro x hx
  simp at hx
  subst hx
  simp [takenJ, aliveJ], by simp⟩
theorem srt_id {l : List Int} (h : l.Pairwise (fun a b => decide (a ≤ b) = true)) : srt l = l := List.mergeSort_of_pairwise h
theorem alive_acc : accS [] (linesOf [aliveJ] 1 0 5) = [(100, 5), (200, -5)] := by decide +kernel
theorem alive_bal : balT [aliveJ] 1 0 5 = ([(100, 5), (200, -5)], 0) := by
  have h1 : accR [aliveJ] 1 0 5 = [(100, 5), (200, -5)] := by
    unfold accR tellS
    rw [alive_acc]
    have : srt ([((100 : Int), (5 : Int)), (200, -5)].map (·.1)) = [100, 200] := srt_id (l := [100, 200]) (by simp)
    rw [this]
    decide +kernel
  unfold balT
  rw [h1]
  decide +kernel

theorem alive_sl (W : World) (c0 : W.heap.size = W.heap.size) : True := trivial
end Go.Proofs.YtacemlbfifhllaaGreat


/- trial.Pick: of balances those of kinds. -/
set_option linter.unusedVariables false
set_option linter.unusedSimpArgs false
namespace Go.Proofs.YtacemlbfifhllaaGreat
open Go.RowKit Go.Maps Go.Deep

theorem filter_yes {α : Type} (p : α → Bool) {l : List α} {n : Nat} (hn : n < l.length) (h : p l[n] = true) : (l.take (n + 1)).filter p = (l.take n).filter p ++ [l[n]] := by
  rw [List.take_succ_eq_append_getElem hn, List.filter_append]
  simp [h]
theorem filter_no {α : Type} (p : α → Bool) {l : List α} {n : Nat} (hn : n < l.length) (h : p l[n] = false) : (l.take (n + 1)).filter p = (l.take n).filter p := by
  rw [List.take_succ_eq_append_getElem hn, List.filter_append]
  simp [h]

end Go.Proofs.YtacemlbfifhllaaGreat


/- Copies of lists that were handed in; lists apart from each other. -/
set_option linter.unusedVariables false
set_option linter.unusedSimpArgs false
namespace Go.Proofs.YtacemlbfifhllaaGreat
open Go.RowKit Go.Maps Go.Deep

/-- a list that is nil has no room -/
def Ty.sliceN {P : Program} {t e : TypeId} {α : Type} (h : P.underlying t = some (.slice e)) (hn : P.cellsOf t = 1) (T : Ty P e α) (hpos : 0 < T.n) : Ty P t (List α) where
  n := 1
  R := fun w F cs xs => (Ty.slice h hn T hpos).R w F cs xs ∧ ∀ n c, cs = [.slice none n c] → c = 0
  hn := hn
  len := fun h0 => (Ty.slice h hn T hpos).len h0.1
  keep := fun hb h0 => ⟨(Ty.slice h hn T hpos).keep hb h0.1, h0.2⟩
  mono := fun hb h0 => ⟨(Ty.slice h hn T hpos).mono hb h0.1, h0.2⟩
  of := by
    intro H enc w fuel cs d ps h1 h2
    obtain ⟨x, hx⟩ := (Ty.slice h hn T hpos).of h1 h2
    refine ⟨x, hx, ?_⟩
    intro n c he
    rcases open_slice h h1 with ⟨rfl, _⟩ | ⟨a, len, cap, m, n, D, Pl, rfl, _⟩
    · simp only [List.cons.injEq, Value.slice.injEq, and_true] at he
      exact he.2.2.symm
    · simp at he
def tBals : Ty Tryz.prog 106 (List (Int × Int)) := Ty.sliceN Tryz.underlying106 (by kernel_rfl) tBal (by decide)

theorem Sl.ofw {w w' : World} {a : Option Addr} {xs : List (Int × Int)} {F : Nat → Prop} {v : Value} (h : Sl tBal w F a xs) (hb : ∀ k, k < w.heap.size → w'.heap[k]? = w.heap[k]?) (hs : w.heap.size ≤ w'.heap.size) (hv : ∀ k, v.ownBlock = some k → w.heap.size ≤ k) :
    Sl tBal w' (fun k => some k ≠ v.ownBlock ∧ k < w'.heap.size) a xs := by
  intro i x hx
  obtain ⟨ad, ces, ha, _, hlt, hc, hr⟩ := h i x hx
  refine ⟨ad, ces, ha, ⟨fun e => by have := hv _ e.symm; omega, by omega⟩, by omega, fun j u hu => ?_, ?_⟩
  · rw [← hc j u hu]
    exact World.cell?_of_block (w := w) (by rw [add_block, add_block]; exact hb _ hlt)
  · obtain ⟨rfl, h1, h2⟩ := bal_inv hr
    exact bal_mk _ h1 h2

theorem OwnL.sl {P : Program} {e : TypeId} {α : Type} {T : Ty P e α} {w : World} {base : Nat} {a : Option Addr} {n c : Nat} {xs : List α} (h : OwnL T w base (.slice a n c) xs) : Sl T w (fun _ => True) a xs := by
  obtain ⟨a', c', he, _, _, hs⟩ := h.slice
  injection he with h1 _ _
  subst h1
  exact hs
theorem LentB.sl {w : World} {base : Nat} {v : Value} {l : List (Int × Int)} (h : LentB w base v l) : ∃ g cap, v = .slice (some ⟨g, 0, none⟩) l.length cap ∧ Sl tBal w (fun _ => True) (some ⟨g, 0, none⟩) l := by
  obtain ⟨g, cap, h1, _, _, ho⟩ := h
  exact ⟨g, cap, h1, ho.sl.left⟩

theorem sl_intsB {w : World} {b : Nat} (xs : List Int) (hb : w.heap[b]? = some (.cells (xs.map (Value.int .i64)).toArray 3 (0, 0))) (h : ∀ x ∈ xs, I64 x) : Sl tInt w (fun _ => True) (some ⟨b, 0, none⟩) xs := by
  intro i x hx
  have hlt : i < xs.length := (List.getElem?_eq_some_iff.1 hx).1
  refine ⟨_, [.int .i64 x], rfl, trivial, (Array.getElem?_eq_some_iff.1 hb).1, fun j v hv => ?_, rfl, h x (List.mem_of_getElem? hx)⟩
  cases j with
  | succ j => simp at hv
  | zero =>
    simp at hv
    subst hv
    rw [Go.Addr.add_add]
    have : (⟨b, 0, none⟩ : Addr).add (i * tInt.n + 0) = ⟨b, i, none⟩ := by
      have e : i * tInt.n + 0 = i := by show i * 1 + 0 = i; omega
      rw [e]
      unfold Addr.add
      split <;> simp_all
    rw [this, cell_of_row w b i _ 3 (0, 0) hb]
    simp [hx]

/-- two lists of a call's own that share no block -/
def ApartV (u v : Value) : Prop := u.ownBlock = none ∨ u.ownBlock ≠ v.ownBlock
theorem ApartV.symm {u v : Value} (h : ApartV u v) : ApartV v u := by
  rcases h with h | h
  · cases hv : v.ownBlock with
    | none => exact .inl hv
    | some k => exact .inr (by rw [hv, h]; simp)
  · exact .inr (Ne.symm h)
theorem OwnL.apartB {w w' : World} {base : Nat} {v u : Value} {xs : List (Int × Int)} (h : OwnL tBal w base v xs) (hg : w.grownBy w' u.ownBlock) (hne : ApartV v u) : OwnL tBal w' base v xs := by
  obtain ⟨css, ⟨hr1, hr2⟩, hr3, hr4, hr5⟩ := h
  refine ⟨css, ⟨hr1, ?_⟩, hr3, hr4, fun i c y hi hy => ?_⟩
  · rcases hr2 with ⟨hn, h0⟩ | ⟨g, cap, cur, hg0, hbb, hc, rest⟩
    · exact .inl ⟨hn, h0⟩
    · refine .inr ⟨g, cap, cur, hg0, hbb, ((hg.block g (blk_lt hc) (fun e => ?_)).trans hc), rest⟩
      rcases hne with hne | hne
      · rw [hg0] at hne
        simp [Value.ownBlock] at hne
      · refine hne ?_
        rw [hg0]
        simpa [Value.ownBlock] using e
  · obtain ⟨rfl, h1, h2⟩ := bal_inv (hr5 i c y hi hy)
    exact bal_mk _ h1 h2
theorem ApartV.step {w : World} {base : Nat} {u v v' : Value} {xs : List (Int × Int)} (h : ApartV u v) (ho : OwnL tBal w base u xs) (hat : v'.ownBlock = v.ownBlock ∨ v'.ownBlock = some w.heap.size) : ApartV u v' := by
  rcases hat with e | e
  · unfold ApartV
    rw [e]
    exact h
  · right
    rw [e]
    intro he
    have := (ho.lt _ he).2
    omega
end Go.Proofs.YtacemlbfifhllaaGreat
