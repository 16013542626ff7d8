/- variorumbook: the Book with trios alone. Printed by mktrios.py. -/
import Derived.Test.YtacemlbfifhllaaGreatX33GatesPlay
import Derived.Test.YtacemlbfifhllaaGreatX34GatesPlay
import Derived.Test.YtacemlbfifhllaaGreatX08GatesPlay
import Derived.Test.YtacemlbfifhllaaGreatX16GatesPlay
import Derived.Deep.RegionLaw
import Derived.Laws.AppendOwnNone
set_option linter.unusedVariables false
set_option linter.unusedSimpArgs false
namespace Go.Proofs.YtacemlbfifhllaaGreat
open Go.RowKit Go.Maps Go.Deep

/-- the Book's cells: trios alone -/
def bookT (s t : Value) : Array Value := #[.slice none 0 0, .slice none 0 0, .slice none 0 0, .slice none 0 0, .slice none 0 0, .slice none 0 0, .slice none 0 0, .slice none 0 0, .slice none 0 0, .slice none 0 0, .slice none 0 0, .slice none 0 0, .slice none 0 0, .slice none 0 0, .slice none 0 0, .slice none 0 0, s, t, .slice none 0 0, .slice none 0 0]
/-- a Book that keeps the lists L of balances: vs, and the copies us -/
structure KeptT (w : World) (b base : Nat) (s t : Value) (vs us : List Value) (L : List (List (Int × Int × Int))) : Prop where
  cell : w.heap[b]? = some (.cells (bookT s t) 41 (0, 0))
  bb : b < base
  os : OwnL tTrioV w base s vs
  ot : OwnL tTrioV w base t us
  lv : Lots tTrio w base vs L
  lu : Lots tTrio w base us L
  st : ApartV s t
  sv : ∀ v ∈ vs, ApartV s v
  su : ∀ v ∈ us, ApartV s v
  tv : ∀ v ∈ vs, ApartV t v
  tu : ∀ v ∈ us, ApartV t v
  vu : ∀ v ∈ vs, ∀ u ∈ us, ApartV v u
section
variable {P : Program} {e : TypeId} {α : Type} {T : Ty P e α} {w w' : World} {b base : Nat} {y s : Value} {xs : List α}
end
theorem KeptT.add {w w4 w6 : World} {b base : Nat} {s t s' t' x x' : Value} {vs us : List Value} {L : List (List (Int × Int × Int))} {l : List (Int × Int × Int)} (h : KeptT w b base s t vs us L) (hx : OwnL tTrio w base x l)
    (xs : ApartV s x) (xt : ApartV t x) (xv : ∀ v ∈ vs, ApartV v x) (xu : ∀ v ∈ us, ApartV v x)
    (F1 : Fr w w4 b s) (os : OwnL tTrioV w4 base s' (vs ++ [x])) (as_ : s'.ownBlock = s.ownBlock ∨ ∀ k, s'.ownBlock = some k → w.heap.size ≤ k)
    (F2 : Fr w4 w6 b t) (ox : OwnL tTrio w6 base x' l) (nx : ∀ k, x'.ownBlock = some k → w4.heap.size ≤ k) (ot : OwnL tTrioV w6 base t' (us ++ [x'])) (at_ : t'.ownBlock = t.ownBlock ∨ ∀ k, t'.ownBlock = some k → w4.heap.size ≤ k) (tx : ApartV t' x')
    (cell : w6.heap[b]? = some (.cells (bookT s' t') 41 (0, 0))) : KeptT w6 b base s' t' (vs ++ [x]) (us ++ [x']) (L ++ [l]) := by
  have l4 : ∀ (v : Value), (∀ k, v.ownBlock = some k → k < w.heap.size) → ∀ k, v.ownBlock = some k → k < w4.heap.size := fun v hv k hk => Nat.lt_of_lt_of_le (hv k hk) F1.1
  have ltv : ∀ v ∈ vs, ∀ k, v.ownBlock = some k → k < w.heap.size := fun v hv k hk => (h.lv.lt hv k hk).2
  have ltu : ∀ v ∈ us, ∀ k, v.ownBlock = some k → k < w.heap.size := fun v hv k hk => (h.lu.lt hv k hk).2
  have ltx : ∀ k, x.ownBlock = some k → k < w.heap.size := fun k hk => (hx.lt k hk).2
  have ltt : ∀ k, t.ownBlock = some k → k < w.heap.size := fun k hk => (h.ot.lt k hk).2
  have lts' : ∀ k, s'.ownBlock = some k → k < w4.heap.size := fun k hk => (os.lt k hk).2
  have s't : ApartV s' t := apart_turn h.st as_ ltt
  have t's' : ApartV t' s' := apart_turn s't.symm at_ lts'
  have lv4 : Lots tTrio w4 base (vs ++ [x]) (L ++ [l]) := (h.lv.fr trio_Free h.bb F1 h.sv).snoc (hx.fr trio_Free h.bb F1 xs) xv
  have lu4 : Lots tTrio w4 base us L := h.lu.fr trio_Free h.bb F1 h.su
  have tvx : ∀ v ∈ vs ++ [x], ApartV t v := fun v hv => by
    rcases List.mem_append.1 hv with hv | hv
    · exact h.tv v hv
    · simp at hv; subst hv; exact xt
  have ltvx : ∀ v ∈ vs ++ [x], ∀ k, v.ownBlock = some k → k < w.heap.size := fun v hv => by
    rcases List.mem_append.1 hv with hv | hv
    · exact ltv v hv
    · simp at hv; subst hv; exact ltx
  refine ⟨cell, h.bb, os.fr trioV_Free h.bb F2 s't.symm, ot, lv4.fr trio_Free h.bb F2 tvx, (lu4.fr trio_Free h.bb F2 h.tu).snoc ox (fun u hu => (apart_new nx (l4 u (ltu u hu))).symm), t's'.symm, fun v hv => ?_, fun v hv => ?_, fun v hv => apart_turn (tvx v hv) at_ (l4 v (ltvx v hv)), fun v hv => ?_, fun v hv u hu => ?_⟩
  · rcases List.mem_append.1 hv with hv | hv
    · exact apart_turn (h.sv v hv) as_ (ltv v hv)
    · simp at hv; subst hv; exact apart_turn xs as_ ltx
  · rcases List.mem_append.1 hv with hv | hv
    · exact apart_turn (h.su v hv) as_ (ltu v hv)
    · simp at hv; subst hv; exact (apart_new nx lts').symm
  · rcases List.mem_append.1 hv with hv | hv
    · exact apart_turn (h.tu v hv) at_ (l4 v (ltu v hv))
    · simp at hv; subst hv; exact tx
  · rcases List.mem_append.1 hu with hu | hu
    · rcases List.mem_append.1 hv with hv | hv
      · exact h.vu v hv u hu
      · simp at hv; subst hv; exact (xu u hu).symm
    · simp at hu; subst hu
      exact (apart_new nx (l4 v (ltvx v hv))).symm
section
variable {P : Program} {e : TypeId} {α : Type} {T : Ty P e α} {w w' : World} {b base : Nat} {s t s' t' x' y : Value} {xs : List α}
end
theorem KeptT.fresh {w : World} {b base : Nat} {s t x : Value} {vs us : List Value} {L : List (List (Int × Int × Int))} (h : KeptT w b base s t vs us L) (hx : ∀ k, x.ownBlock = some k → w.heap.size ≤ k) : Out s t vs us x :=
  ⟨(apart_new hx (fun k hk => (h.os.lt k hk).2)).symm, (apart_new hx (fun k hk => (h.ot.lt k hk).2)).symm, fun v hv => (apart_new hx (fun k hk => (h.lv.lt hv k hk).2)).symm, fun v hv => (apart_new hx (fun k hk => (h.lu.lt hv k hk).2)).symm⟩
end Go.Proofs.YtacemlbfifhllaaGreat


/- Steps of regions that draw their order: an append to a list of the call's own, a store into a map. -/
set_option linter.unusedVariables false
set_option linter.unusedSimpArgs false
namespace Go.Proofs.YtacemlbfifhllaaGreat
open Go.RowKit Go.Maps

section
variable {P : Program} {e : TypeId} {α : Type} {T : Ty P e α} {ops : Array Oper} {o : Oper} {a : Act} {w : World} {K : Act → World → Prop} {Q : Exit → Act → World → Prop} {E : Prop}
theorem step_app (hgd : o.guard = none) (s x : Operand) (t : TypeId) (ho : o.op = .call { callee := .builtin .append, args := #[s, x], argTypes := #[t, t] })
    (i : TypeInfo) (z : Value) (bytes : Nat) (ht : P.underlying t = some (.slice e)) (hi : P.info? e = some i) (hz : i.zero = some z) (hsize : i.size = T.n) (hby : i.bytes = bytes) (hzs : z.cells.size = T.n) (hsz : 0 < T.n)
    (h1c : ∀ (w : World) (F : Nat → Prop) (c : List Value) (x : α), T.R w F c x → ∀ u ∈ c, u.oneCell' = true)
    (base : Nat) (v : Value) (xs : List α) (hs : a.eval s = v) (hown : OwnL T w base v xs) (ad : Addr) (c : Nat) (ys : List α) (hx : a.eval x = .slice (some ad) ys.length c)
    (hys : Sl T w (fun k => some k ≠ v.ownBlock ∧ k < w.heap.size) (some ad) ys) (h63 : xs.length + ys.length ≤ maxLen) (hbytes : (xs.length + ys.length) * bytes ≤ 140737488355328) (hbase : base ≤ w.heap.size)
    (h : ∀ v' w', OwnL T w' base v' (xs ++ ys) → w.grownBy w' v.ownBlock → (v'.ownBlock = v.ownBlock ∨ v'.ownBlock = some w.heap.size) → K (a.put o.dst v') w') :
    if Region.wanted o (yielded ops a.tmps) = true then Oper.wp P o a w K Q else E := by
  have hw : Region.wanted o (yielded ops a.tmps) = true := by simp [Region.wanted, hgd]
  rw [if_pos hw]
  obtain ⟨css, h1, h2, h3, h4⟩ := hown
  obtain ⟨news, n2, n4, n3, n5⟩ := hys.rows
  obtain ⟨v', w', hrun, r1, r2, r3, r4⟩ := run_append_own_at (P := P) w base t o.type e i z T.n bytes ht hi hz hsize hby hzs hsz v xs.length css.flatten h1 ad ys.length c news.flatten (by rw [flat_len n3, n2]) n5 (by
    intro u hu
    obtain ⟨c', hc', hu'⟩ := List.mem_flatten.1 hu
    obtain ⟨k, hk, rfl⟩ := List.mem_iff_getElem.1 hc'
    exact h1c w _ _ _ (n4 k _ _ (List.getElem?_eq_getElem hk) (List.getElem?_eq_getElem (by omega))) u hu') h63 hbytes hbase
  unfold Oper.wp
  simp [execOp, ho, resolve, invoke, builtin, hs, hx, hrun, Result.andThen]
  exact h v' w' (OwnL.app h2 h3 h4 n2 n3 n4 r1 r2 r4) r2 r4
end
section
variable {P : Program} {t : TypeId} {κ ν : Type} [DecidableEq κ] {M : MK P t κ} {ev : ν → Value} {ops : Array Oper} {o : Oper} {a : Act} {w : World} {K : Act → World → Prop} {Q : Exit → Act → World → Prop} {E : Prop}
theorem step_update (hg : o.guard = none) (m x v : Operand) (T : TypeId) (hop : o.op = Op.mapUpdate T m x v) (e : TypeId) (ht : P.underlying T = some (.map t e)) (b : Nat) (l : List (κ × ν)) (k : κ) (y : ν)
    (hm : a.eval m = .map (some b)) (hx : a.eval x = M.ek k) (hv : a.eval v = ev y) (h : MapIs M ev w b l) (hk : M.ok k)
    (hK : ∀ w', MapIs M ev w' b (ins l k y) → OnlyB w w' b → K (a.put o.dst undef) w') : if Region.wanted o (yielded ops a.tmps) = true then Oper.wp P o a w K Q else E := by
  have hw : Region.wanted o (yielded ops a.tmps) = true := by simp [Region.wanted, hg]
  rw [if_pos hw]
  obtain ⟨w', hrun, r1, r2⟩ := h.update ht hk y
  unfold Oper.wp
  simp [execOp, hop, hm, hx, hv, hrun, Result.andThen]
  exact hK w' r1 r2
end

theorem look_ins {κ ν : Type} [DecidableEq κ] (l : List (κ × ν)) (k : κ) (v : ν) (j : κ) : look (ins l k v) j = if j = k then some v else look l j := by
  induction l with
  | nil =>
    by_cases h : j = k
    · subst h; simp [ins, look]
    · have : ¬ k = j := fun e => h e.symm
      simp [ins, look, h, this]
  | cons x r ih =>
    unfold ins
    by_cases hx : x.1 = k
    · rw [if_pos hx]
      by_cases h : j = k
      · subst h; simp [look]
      · have h1 : ¬ k = j := fun e => h e.symm
        have h2 : ¬ x.1 = j := fun e => h (e.symm.trans hx)
        simp [look, h, h1, h2]
    · rw [if_neg hx]
      by_cases hj : x.1 = j
      · have : ¬ j = k := fun e => hx (hj.trans e)
        simp [look, hj, this]
      · have e1 : look (x :: ins r k v) j = look (ins r k v) j := by simp [look, hj]
        have e2 : look (x :: r) j = look r j := by simp [look, hj]
        rw [e1, e2, ih]
end Go.Proofs.YtacemlbfifhllaaGreat


/- append at a step of a region, where the list behind may be nil. -/
set_option linter.unusedVariables false
set_option linter.unusedSimpArgs false
namespace Go.Proofs.YtacemlbfifhllaaGreat
open Go.RowKit Go.Maps
section
variable {P : Program} {e : TypeId} {α : Type} {T : Ty P e α} {ops : Array Oper} {o : Oper} {a : Act} {w : World} {K : Act → World → Prop} {Q : Exit → Act → World → Prop} {E : Prop}
theorem step_appA (hgd : o.guard = none) (s x : Operand) (t : TypeId) (ho : o.op = .call { callee := .builtin .append, args := #[s, x], argTypes := #[t, t] })
    (i : TypeInfo) (z : Value) (bytes : Nat) (ht : P.underlying t = some (.slice e)) (hi : P.info? e = some i) (hz : i.zero = some z) (hsize : i.size = T.n) (hby : i.bytes = bytes) (hzs : z.cells.size = T.n) (hsz : 0 < T.n)
    (h1c : ∀ (w : World) (F : Nat → Prop) (c : List Value) (x : α), T.R w F c x → ∀ u ∈ c, u.oneCell' = true)
    (base : Nat) (v : Value) (xs : List α) (hs : a.eval s = v) (hown : OwnL T w base v xs) (ad : Option Addr) (c : Nat) (ys : List α) (hx : a.eval x = .slice ad ys.length c) (hnil : ad = none → ys = [] ∧ c = 0)
    (hys : Sl T w (fun k => some k ≠ v.ownBlock ∧ k < w.heap.size) ad ys) (h63 : xs.length + ys.length ≤ maxLen) (hbytes : (xs.length + ys.length) * bytes ≤ 140737488355328) (hbase : base ≤ w.heap.size)
    (h : ∀ v' w', OwnL T w' base v' (xs ++ ys) → w.grownBy w' v.ownBlock → (v'.ownBlock = v.ownBlock ∨ v'.ownBlock = some w.heap.size) → K (a.put o.dst v') w') :
    if Region.wanted o (yielded ops a.tmps) = true then Oper.wp P o a w K Q else E := by
  cases ad with
  | some ad => exact step_app hgd s x t ho i z bytes ht hi hz hsize hby hzs hsz h1c base v xs hs hown ad c ys hx hys h63 hbytes hbase h
  | none =>
    obtain ⟨rfl, rfl⟩ := hnil rfl
    obtain ⟨css, hr, h2⟩ := hown
    have hw : Region.wanted o (yielded ops a.tmps) = true := by simp [Region.wanted, hgd]
    rw [if_pos hw]
    have hrun := run_append_owned_none (P := P) (w := w) base t o.type e i T.n ht hi v xs.length css.flatten hr
    unfold Oper.wp
    have hx' : a.eval x = .slice none 0 0 := hx
    simp [execOp, ho, resolve, invoke, builtin, hs, hx', hrun, Result.andThen]
    exact h v w (by rw [List.append_nil]; exact ⟨css, hr, h2⟩) ⟨rfl, rfl, rfl, Nat.le_refl _, fun _ _ _ => rfl⟩ (.inl rfl)
end
end Go.Proofs.YtacemlbfifhllaaGreat
