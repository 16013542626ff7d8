/- trial: tell. -/
import Derived.Test.YtacemlbfifhllaaGreatX16GatesPlay
import Derived.OpenShut
set_option linter.unusedVariables false
set_option linter.unusedSimpArgs false
namespace Go.Proofs.YtacemlbfifhllaaGreat
open Go.RowKit Go.Maps

abbrev pairV (x : Int × Int) : List Value := [.int .i64 x.1, .int .i64 x.2]
theorem two_cells {cs : List Value} (h : cs.length = 2) : ∃ c0 c1, cs = [c0, c1] := by
  match cs, h with
  | [c0, c1], _ => exact ⟨c0, c1, rfl⟩
set_option maxRecDepth 100000 in
theorem pair_of {H : Type} {enc : TypeId × Value → H} {w : World} {fuel : Nat} {cs : List Value} {d : DataW H} {ps : List MemPlace}
    (h1 : DataW.trod enc Tryz.prog w 0 (fun _ => true) true fuel 140 cs = some (d, ps)) : ∃ x : Int × Int, cs = pairV x ∧ I64 x.1 ∧ I64 x.2 := by
  obtain ⟨xs, m, _, _, hl, hxl, hel⟩ := DataW.trod_array Tryz.underlying140 h1
  have h1c : Tryz.prog.cellsOf 3 = 1 := by kernel_rfl
  have h2c : Tryz.prog.cellsOf 140 = 2 := by kernel_rfl
  rw [h2c] at hl
  obtain ⟨c0, c1, rfl⟩ := two_cells hl
  have e0 := hel 0 (by omega)
  have e1 := hel 1 (by omega)
  rw [h1c] at e0 e1
  simp only [Nat.zero_mul, Nat.one_mul, List.drop_zero, List.take_succ_cons, List.take_zero, List.drop_succ_cons] at e0 e1
  rw [List.getElem?_eq_getElem (by omega)] at e0 e1
  obtain ⟨x0, hx0, _, w0⟩ := DataW.trod_int Tryz.underlying3 e0
  obtain ⟨x1, hx1, _, w1⟩ := DataW.trod_int Tryz.underlying3 e1
  simp only [List.cons.injEq, and_true] at hx0 hx1
  subst hx0
  subst hx1
  exact ⟨(x0, x1), rfl, w0, w1⟩
def tPair : Ty Tryz.prog 140 (Int × Int) where
  n := 2
  R := fun _ _ cs x => cs = pairV x ∧ I64 x.1 ∧ I64 x.2
  hn := by kernel_rfl
  len := by rintro _ _ _ _ ⟨rfl, _⟩; rfl
  keep := fun _ h => h
  mono := fun _ h => h
  of := fun h1 _ => pair_of h1
theorem pair_free (w : World) (F G : Nat → Prop) (c : List Value) (x : Int × Int) (h : tPair.R w F c x) : tPair.R w G c x := h
theorem pair_one (w : World) (F : Nat → Prop) (c : List Value) (x : Int × Int) (h : tPair.R w F c x) : ∀ u ∈ c, u.oneCell' = true := by
  obtain ⟨rfl, _⟩ := h
  simp [Value.oneCell']
theorem infoPair : (Tryz.prog.info? 140).map (fun i => (i.zero, i.size, i.bytes)) = some (some (.agg #[.int .i64 0, .int .i64 0]), 2, 16) := by kernel_rfl
theorem pair_at {w : World} {F : Nat → Prop} {a : Option Addr} {l : List (Int × Int)} (h : Sl tPair w F a l) (i : Nat) (hi : i < l.length) :
    ∃ ad, a = some ad ∧ F ad.block ∧ ad.block < w.heap.size ∧ w.cell? (ad.add (i * 2)) = some (.int .i64 l[i].1) ∧ w.cell? ⟨(ad.add (i * 2)).block, (ad.add (i * 2)).off + 1, none⟩ = some (.int .i64 l[i].2) ∧ I64 l[i].1 ∧ I64 l[i].2 := by
  obtain ⟨ad, ces, rfl, hf, hlt, hc, rfl, h1, h2⟩ := h i l[i] (List.getElem?_eq_getElem hi)
  rw [show tPair.n = 2 from rfl] at hc
  refine ⟨ad, rfl, hf, hlt, ?_, ?_, h1, h2⟩
  · have := hc 0 _ rfl
    simpa [Addr.add] using this
  · have := hc 1 _ rfl
    rw [Addr.add] at this
    simpa using this
theorem infoInt : (Tryz.prog.info? 3).map (fun i => (i.zero, i.size, i.bytes)) = some (some (.int .i64 0), 1, 8) := by kernel_rfl
theorem eq_pair (x1 x2 y1 y2 : Int) (w : World) : (Op.equalIn 10000 140 (.agg #[.int .i64 x1, .int .i64 x2]) (.agg #[.int .i64 y1, .int .i64 y2])).run Tryz.prog w = .ok (x1 == y1 && x2 == y2) w := by
  obtain ⟨i0, hi, _⟩ := info_parts infoInt
  have hc : Tryz.prog.cellsOf 3 = 1 := by kernel_rfl
  rw [show (10000 : Nat) = 9999 + 1 from rfl, run_equalIn_array w 9999 _ _ Tryz.underlying140 hi, hc]
  simp only [List.range, List.range.loop, Op.eqItems]
  cases h1 : x1 == y1 <;> cases h2 : x2 == y2 <;> simp [go_sem, h1, h2]
/-- one element of two whole numbers in a block, as append takes it -/
theorem sl_one2 {P : Program} {t : TypeId} (T : Ty P t (Int × Int)) {w : World} {F : Nat → Prop} {b : Nat} {x : Int × Int} (hn : T.n = 2) (hb : w.heap[b]? = some (.cells #[.int .i64 x.1, .int .i64 x.2] t (0, 0))) (hF : F b) (hr : T.R w F (pairV x) x) :
    Sl T w F (some ⟨b, 0, none⟩) [x] := by
  intro i y hi
  cases i with
  | succ i => simp at hi
  | zero =>
    simp at hi
    subst hi
    refine ⟨_, pairV x, rfl, hF, (Array.getElem?_eq_some_iff.1 hb).1, fun k u hu => ?_, hr⟩
    rw [Nat.zero_mul, Go.Addr.add_add, Nat.zero_add]
    have : (⟨b, 0, none⟩ : Addr).add k = ⟨b, k, none⟩ := by unfold Addr.add; split <;> simp_all
    rw [this, cell_of_row w b k _ t (0, 0) hb]
    simpa using hu

def tellK (s : List (Int × Int)) (k : Int) : List (Int × Int) := if at0 s k == 0 then [] else [(k, at0 s k)]
def tellS (s : List (Int × Int)) : List (Int × Int) := (srt (s.map (·.1))).flatMap (tellK s)
theorem flat_succ {α β : Type} (f : α → List β) (l : List α) (n : Nat) (hn : n < l.length) : (l.take (n + 1)).flatMap f = (l.take n).flatMap f ++ f l[n] := by
  rw [List.take_succ_eq_append_getElem hn, List.flatMap_append]
  simp
theorem flat_len1 {α β : Type} (f : α → List β) (hf : ∀ x, (f x).length ≤ 1) : ∀ (l : List α), (l.flatMap f).length ≤ l.length
  | [] => by simp
  | x :: r => by
    rw [List.flatMap_cons, List.length_append, List.length_cons]
    have := flat_len1 f hf r
    have := hf x
    omega
theorem tellK_len (s : List (Int × Int)) (k : Int) : (tellK s k).length ≤ 1 := by
  unfold tellK
  split <;> simp
theorem tellS_len (s : List (Int × Int)) : (tellS s).length ≤ s.length := by
  unfold tellS
  refine Nat.le_trans (flat_len1 _ (tellK_len s) _) ?_
  rw [srt_len, List.length_map]
  exact Nat.le_refl _
theorem at0_val {s : List (Int × Int)} (h : ∀ x ∈ s, I64 x.2) (k : Int) : I64 (at0 s k) := by
  unfold at0 look
  cases hf : s.find? (fun x => x.1 = k) with
  | none => decide
  | some x => exact h x (List.mem_of_find?_eq_some hf)

def TellPost (w : World) (r : List (Int × Int)) (e : Ending) (w' : World) : Prop := ∃ v, e = .returned v ∧ OwnL tPair w' w.heap.size v r ∧ Below w.heap.size w w'

end Go.Proofs.YtacemlbfifhllaaGreat


/- trial: Balances, Partners. -/
set_option linter.unusedVariables false
set_option linter.unusedSimpArgs false
namespace Go.Proofs.YtacemlbfifhllaaGreat
open Go.RowKit Go.Maps

def fBal : Flds Tryz.prog [fld "Account" 3 0 0, fld "Amount" 3 1 8] 0 (Int × Int × Unit) :=
  Flds.cons (f := fld "Account" 3 0 0) tInt rfl (Flds.cons (f := fld "Amount" 3 1 8) tInt rfl (Flds.nil _ _))
def tBal : Ty Tryz.prog 131 (Int × Int) := (Ty.struct Tryz.underlying131 fBal (by kernel_rfl)).map (fun x => (x.1, x.2.1))
theorem bal_inv {w : World} {F : Nat → Prop} {cs : List Value} {x : Int × Int} (h : tBal.R w F cs x) : cs = pairV x ∧ I64 x.1 ∧ I64 x.2 := by
  obtain ⟨y, rfl, c1, c2, rfl, ⟨rfl, h1⟩, c3, c4, rfl, ⟨rfl, h2⟩, rfl⟩ := h
  exact ⟨rfl, h1, h2⟩
theorem bal_mk {w : World} {F : Nat → Prop} (x : Int × Int) (h1 : I64 x.1) (h2 : I64 x.2) : tBal.R w F (pairV x) x :=
  ⟨(x.1, x.2, ()), rfl, [_], [_], rfl, ⟨rfl, h1⟩, [_], [], rfl, ⟨rfl, h2⟩, rfl⟩
theorem bal_free (w : World) (F G : Nat → Prop) (c : List Value) (x : Int × Int) (h : tBal.R w F c x) : tBal.R w G c x := by
  obtain ⟨rfl, h1, h2⟩ := bal_inv h
  exact bal_mk x h1 h2
theorem bal_one (w : World) (F : Nat → Prop) (c : List Value) (x : Int × Int) (h : tBal.R w F c x) : ∀ u ∈ c, u.oneCell' = true := by
  obtain ⟨rfl, _⟩ := bal_inv h
  simp [Value.oneCell']
theorem infoBal : (Tryz.prog.info? 131).map (fun i => (i.zero, i.size, i.bytes)) = some (some (.agg #[.int .i64 0, .int .i64 0]), 2, 16) := by kernel_rfl
theorem bal_at {w : World} {F : Nat → Prop} {a : Option Addr} {l : List (Int × Int)} (h : Sl tBal w F a l) (i : Nat) (hi : i < l.length) :
    ∃ ad, a = some ad ∧ F ad.block ∧ ad.block < w.heap.size ∧ w.cell? (ad.add (i * 2)) = some (.int .i64 l[i].1) ∧ w.cell? ⟨(ad.add (i * 2)).block, (ad.add (i * 2)).off + 1, none⟩ = some (.int .i64 l[i].2) ∧ I64 l[i].1 ∧ I64 l[i].2 := by
  obtain ⟨ad, ces, rfl, hf, hlt, hc, hr⟩ := h i l[i] (List.getElem?_eq_getElem hi)
  obtain ⟨rfl, h1, h2⟩ := bal_inv hr
  rw [show tBal.n = 2 from rfl] at hc
  refine ⟨ad, rfl, hf, hlt, ?_, ?_, h1, h2⟩
  · have := hc 0 _ rfl
    simpa [Addr.add] using this
  · have := hc 1 _ rfl
    rw [Addr.add] at this
    simpa using this

/-- journals as they lie in a book: with lines, of which there are few -/
def GoodJ (l : List Jn) : Prop := ∀ x ∈ l, x.lines ≠ [] ∧ x.lines.length ≤ 8
theorem GoodJ.ne {l : List Jn} (h : GoodJ l) : ∀ x ∈ l, x.lines ≠ [] := fun x hx => (h x hx).1
theorem ins_len (s : List (Int × Int)) (k v : Int) : (ins s k v).length ≤ s.length + 1 := by
  induction s with
  | nil => simp [ins]
  | cons x r ih =>
    unfold ins
    split
    · simp
    · simp only [List.length_cons]; omega
theorem sAdd_len (s : List (Int × Int)) (k v : Int) : (sAdd s k v).length ≤ s.length + 1 := ins_len _ _ _
theorem accS_len : ∀ (ls : List Ln) (s : List (Int × Int)), (accS s ls).length ≤ s.length + ls.length
  | [], s => by simp [accS]
  | x :: r, s => by
    have h1 := accS_len r (sAdd s x.acc x.amt)
    have h2 := sAdd_len s x.acc x.amt
    simp only [accS, List.foldl_cons, List.length_cons] at h1 ⊢
    omega
theorem sPar_len (s : List (Int × Int)) (l : Ln) : (sPar s l).length ≤ s.length + 1 := by
  unfold sPar
  split
  · omega
  · exact sAdd_len _ _ _
theorem parS_len : ∀ (ls : List Ln) (s : List (Int × Int)), (parS s ls).length ≤ s.length + ls.length
  | [], s => by simp [parS]
  | x :: r, s => by
    have h1 := parS_len r (sPar s x)
    have h2 := sPar_len s x
    simp only [parS, List.foldl_cons, List.length_cons] at h1 ⊢
    omega
theorem accS_vals : ∀ (ls : List Ln) (s : List (Int × Int)), (∀ x ∈ s, I64 x.2) → ∀ x ∈ accS s ls, I64 x.2
  | [], s, h => h
  | x :: r, s, h => accS_vals r (sAdd s x.acc x.amt) (sAdd_vals h _ _)
theorem sPar_vals {s : List (Int × Int)} (h : ∀ x ∈ s, I64 x.2) (l : Ln) : ∀ x ∈ sPar s l, I64 x.2 := by
  unfold sPar
  split
  · exact h
  · exact sAdd_vals h _ _
theorem parS_vals : ∀ (ls : List Ln) (s : List (Int × Int)), (∀ x ∈ s, I64 x.2) → ∀ x ∈ parS s ls, I64 x.2
  | [], s, h => h
  | x :: r, s, h => parS_vals r (sPar s x) (sPar_vals h x)
theorem flat8 : ∀ {l : List Jn}, GoodJ l → (l.flatMap (·.lines)).length ≤ 8 * l.length
  | [], _ => by simp
  | x :: r, h => by
    have ih := flat8 (l := r) (fun y hy => h y (List.mem_cons_of_mem _ hy))
    have hx := (h x (List.mem_cons_self ..)).2
    rw [List.flatMap_cons, List.length_append, List.length_cons]
    omega
theorem linesOf_len {l : List Jn} (h : GoodJ l) (hl : l.length ≤ 1000) (e f t : Int) : (linesOf l e f t).length ≤ 8000 := by
  unfold linesOf
  have h1 := flat8 (l := l.filter (cnt e f t)) (fun x hx => h x (List.mem_filter.1 hx).1)
  have h2 := List.length_filter_le (cnt e f t) l
  omega

def accR (l : List Jn) (e f t : Int) : List (Int × Int) := tellS (accS [] (linesOf l e f t))
def parR (l : List Jn) (e f t : Int) : List (Int × Int) := tellS (parS [] (linesOf l e f t))
def balT (l : List Jn) (e f t : Int) : List (Int × Int) × Int :=
  if rightB e f t then (if (accR l e f t).all (fun x => fitsB x.2) then (accR l e f t, 0) else ([], 2)) else ([], 1)
def BalPost (w : World) (r : List (Int × Int) × Int) (e : Ending) (w' : World) : Prop := ∃ v, e = .returned (.tuple #[v, .int .i64 r.2]) ∧ OwnL tBal w' w.heap.size v r.1 ∧ Below w.heap.size w w'

def parT (l : List Jn) (e f t : Int) : List (Int × Int) × Int := if (balT l e f t).2 == 0 then (parR l e f t, 0) else ([], (balT l e f t).2)
def ParPost (w : World) (r : List (Int × Int) × Int) (e : Ending) (w' : World) : Prop := ∃ v, e = .returned (.tuple #[v, .int .i64 r.2]) ∧ OwnL tPair w' w.heap.size v r.1 ∧ Below w.heap.size w w'

end Go.Proofs.YtacemlbfifhllaaGreat
