/- variorumbook: the Book with balances alone; one more list is kept. -/
import Derived.Test.YtgggpaacagbmcaaGreatX31GroupInner
import Derived.Test.YtgggpaacagbmcaaGreatX29GroupInner
set_option linter.unusedVariables false
set_option linter.unusedSimpArgs false
namespace Go.Proofs.YtgggpaacagbmcaaGreat
open Go.RowKit Go.Maps Go.Deep

/-- the Book's cells: balances alone -/
def bookB (s t : Value) : Array Value := #[.slice none 0 0, .slice none 0 0, .slice none 0 0, .slice none 0 0, .slice none 0 0, .slice none 0 0, s, t, .slice none 0 0, .slice none 0 0, .slice none 0 0, .slice none 0 0, .slice none 0 0, .slice none 0 0, .slice none 0 0, .slice none 0 0, .slice none 0 0, .slice none 0 0, .slice none 0 0, .slice none 0 0]
/-- a Book that keeps the lists L of balances: vs, and the copies us -/
structure KeptB (w : World) (b base : Nat) (s t : Value) (vs us : List Value) (L : List (List (Int × Int))) : Prop where
  cell : w.heap[b]? = some (.cells (bookB s t) 48 (0, 0))
  bb : b < base
  os : OwnL tBalV w base s vs
  ot : OwnL tBalV w base t us
  lv : Lots tBal w base vs L
  lu : Lots tBal w base us L
  st : ApartV s t
  sv : ∀ v ∈ vs, ApartV s v
  su : ∀ v ∈ us, ApartV s v
  tv : ∀ v ∈ vs, ApartV t v
  tu : ∀ v ∈ us, ApartV t v
  vu : ∀ v ∈ vs, ∀ u ∈ us, ApartV v u
/-- of what was there only block b and the row of s may have turned -/
def Fr (w w' : World) (b : Nat) (s : Value) : Prop := w.heap.size ≤ w'.heap.size ∧ ∀ k, k < w.heap.size → k ≠ b → some k ≠ s.ownBlock → w'.heap[k]? = w.heap[k]?
section
variable {P : Program} {e : TypeId} {α : Type} {T : Ty P e α} {w w' : World} {b base : Nat} {y s : Value} {xs : List α}
theorem OwnL.fr (hfr : Free T) (ho : OwnL T w base y xs) (hb : b < base) (h : Fr w w' b s) (hap : ApartV s y) : OwnL T w' base y xs := by
  have hlt := ho.lt
  refine ho.keepF hfr (fun k hk => h.2 k (hlt k hk).2 (by have := (hlt k hk).1; omega) (fun e2 => ?_))
  rcases hap with h1 | h1
  · rw [h1] at e2; cases e2
  · exact h1 (by rw [hk, e2])
theorem Lots.fr {vs : List Value} {L : List (List α)} (hfr : Free T) (ho : Lots T w base vs L) (hb : b < base) (h : Fr w w' b s) (hap : ∀ v ∈ vs, ApartV s v) : Lots T w' base vs L :=
  ⟨ho.len, fun i v l hv hl => (ho.own i v l hv hl).fr hfr hb h (hap v (List.mem_of_getElem? hv)), ho.apart⟩
end
/-- new rows are apart from all that was there -/
theorem apart_new {u v : Value} {n : Nat} (hu : ∀ k, u.ownBlock = some k → n ≤ k) (hv : ∀ k, v.ownBlock = some k → k < n) : ApartV u v := by
  cases h : u.ownBlock with
  | none => exact .inl h
  | some k => exact .inr (fun e => by
    rw [h] at e
    have h1 := hu k h
    have h2 := hv k e.symm
    omega)
theorem apart_turn {u u' v : Value} {n : Nat} (h : ApartV u v) (hat : u'.ownBlock = u.ownBlock ∨ ∀ k, u'.ownBlock = some k → n ≤ k) (hv : ∀ k, v.ownBlock = some k → k < n) : ApartV u' v := by
  rcases hat with e | e
  · unfold ApartV
    rw [e]
    exact h
  · exact apart_new e hv
theorem KeptB.add {w w4 w6 : World} {b base : Nat} {s t s' t' x x' : Value} {vs us : List Value} {L : List (List (Int × Int))} {l : List (Int × Int)} (h : KeptB w b base s t vs us L) (hx : OwnL tBal w base x l)
    (xs : ApartV s x) (xt : ApartV t x) (xv : ∀ v ∈ vs, ApartV v x) (xu : ∀ v ∈ us, ApartV v x)
    (F1 : Fr w w4 b s) (os : OwnL tBalV w4 base s' (vs ++ [x])) (as_ : s'.ownBlock = s.ownBlock ∨ ∀ k, s'.ownBlock = some k → w.heap.size ≤ k)
    (F2 : Fr w4 w6 b t) (ox : OwnL tBal w6 base x' l) (nx : ∀ k, x'.ownBlock = some k → w4.heap.size ≤ k) (ot : OwnL tBalV w6 base t' (us ++ [x'])) (at_ : t'.ownBlock = t.ownBlock ∨ ∀ k, t'.ownBlock = some k → w4.heap.size ≤ k) (tx : ApartV t' x')
    (cell : w6.heap[b]? = some (.cells (bookB s' t') 48 (0, 0))) : KeptB w6 b base s' t' (vs ++ [x]) (us ++ [x']) (L ++ [l]) := by
  have l4 : ∀ (v : Value), (∀ k, v.ownBlock = some k → k < w.heap.size) → ∀ k, v.ownBlock = some k → k < w4.heap.size := fun v hv k hk => Nat.lt_of_lt_of_le (hv k hk) F1.1
  have ltv : ∀ v ∈ vs, ∀ k, v.ownBlock = some k → k < w.heap.size := fun v hv k hk => (h.lv.lt hv k hk).2
  have ltu : ∀ v ∈ us, ∀ k, v.ownBlock = some k → k < w.heap.size := fun v hv k hk => (h.lu.lt hv k hk).2
  have ltx : ∀ k, x.ownBlock = some k → k < w.heap.size := fun k hk => (hx.lt k hk).2
  have ltt : ∀ k, t.ownBlock = some k → k < w.heap.size := fun k hk => (h.ot.lt k hk).2
  have lts' : ∀ k, s'.ownBlock = some k → k < w4.heap.size := fun k hk => (os.lt k hk).2
  have s't : ApartV s' t := apart_turn h.st as_ ltt
  have t's' : ApartV t' s' := apart_turn s't.symm at_ lts'
  have lv4 : Lots tBal w4 base (vs ++ [x]) (L ++ [l]) := (h.lv.fr bal_Free h.bb F1 h.sv).snoc (hx.fr bal_Free h.bb F1 xs) xv
  have lu4 : Lots tBal w4 base us L := h.lu.fr bal_Free h.bb F1 h.su
  have tvx : ∀ v ∈ vs ++ [x], ApartV t v := fun v hv => by
    rcases List.mem_append.1 hv with hv | hv
    · exact h.tv v hv
    · simp at hv; subst hv; exact xt
  have ltvx : ∀ v ∈ vs ++ [x], ∀ k, v.ownBlock = some k → k < w.heap.size := fun v hv => by
    rcases List.mem_append.1 hv with hv | hv
    · exact ltv v hv
    · simp at hv; subst hv; exact ltx
  refine ⟨cell, h.bb, os.fr balV_Free h.bb F2 s't.symm, ot, lv4.fr bal_Free h.bb F2 tvx, (lu4.fr bal_Free h.bb F2 h.tu).snoc ox (fun u hu => (apart_new nx (l4 u (ltu u hu))).symm), t's'.symm, fun v hv => ?_, fun v hv => ?_, fun v hv => apart_turn (tvx v hv) at_ (l4 v (ltvx v hv)), fun v hv => ?_, fun v hv u hu => ?_⟩
  · rcases List.mem_append.1 hv with hv | hv
    · exact apart_turn (h.sv v hv) as_ (ltv v hv)
    · simp at hv; subst hv; exact apart_turn xs as_ ltx
  · rcases List.mem_append.1 hv with hv | hv
    · exact apart_turn (h.su v hv) as_ (ltu v hv)
    · simp at hv; subst hv; exact (apart_new nx lts').symm
  · rcases List.mem_append.1 hv with hv | hv
    · exact apart_turn (h.tu v hv) at_ (l4 v (ltu v hv))
    · simp at hv; subst hv; exact tx
  · rcases List.mem_append.1 hu with hu | hu
    · rcases List.mem_append.1 hv with hv | hv
      · exact h.vu v hv u hu
      · simp at hv; subst hv; exact (xu u hu).symm
    · simp at hu; subst hu
      exact (apart_new nx (l4 v (ltvx v hv))).symm
/-- what keeping a list turned: block b, the rows of s and t; the new ones are new, or those -/
structure KFr (w w' : World) (b : Nat) (s t s' t' x' : Value) : Prop where
  size : w.heap.size ≤ w'.heap.size
  keep : ∀ k, k < w.heap.size → k ≠ b → some k ≠ s.ownBlock → some k ≠ t.ownBlock → w'.heap[k]? = w.heap[k]?
  sn : s'.ownBlock = s.ownBlock ∨ ∀ k, s'.ownBlock = some k → w.heap.size ≤ k
  tn : t'.ownBlock = t.ownBlock ∨ ∀ k, t'.ownBlock = some k → w.heap.size ≤ k
  xn : ∀ k, x'.ownBlock = some k → w.heap.size ≤ k
section
variable {P : Program} {e : TypeId} {α : Type} {T : Ty P e α} {w w' : World} {b base : Nat} {s t s' t' x' y : Value} {xs : List α}
theorem KFr.own (hfr : Free T) (hk : KFr w w' b s t s' t' x') (ho : OwnL T w base y xs) (hb : b < base) (hs : ApartV s y) (ht : ApartV t y) : OwnL T w' base y xs := by
  have hlt := ho.lt
  refine ho.keepF hfr (fun k h => hk.keep k (hlt k h).2 (by have := (hlt k h).1; omega) (fun e2 => ?_) (fun e2 => ?_))
  · rcases hs with h1 | h1
    · rw [h1] at e2; cases e2
    · exact h1 (by rw [h, e2])
  · rcases ht with h1 | h1
    · rw [h1] at e2; cases e2
    · exact h1 (by rw [h, e2])
theorem KFr.far (hk : KFr w w' b s t s' t' x') (hy : ∀ k, y.ownBlock = some k → k < w.heap.size) (hs : ApartV s y) (ht : ApartV t y) : ApartV s' y ∧ ApartV t' y ∧ ApartV x' y :=
  ⟨apart_turn hs hk.sn hy, apart_turn ht hk.tn hy, apart_new hk.xn hy⟩
end
/-- a value that may be kept: apart from all that is -/
def Out (s t : Value) (vs us : List Value) (x : Value) : Prop := ApartV s x ∧ ApartV t x ∧ (∀ v ∈ vs, ApartV v x) ∧ ∀ v ∈ us, ApartV v x
theorem KeptB.fresh {w : World} {b base : Nat} {s t x : Value} {vs us : List Value} {L : List (List (Int × Int))} (h : KeptB w b base s t vs us L) (hx : ∀ k, x.ownBlock = some k → w.heap.size ≤ k) : Out s t vs us x :=
  ⟨(apart_new hx (fun k hk => (h.os.lt k hk).2)).symm, (apart_new hx (fun k hk => (h.ot.lt k hk).2)).symm, fun v hv => (apart_new hx (fun k hk => (h.lv.lt hv k hk).2)).symm, fun v hv => (apart_new hx (fun k hk => (h.lu.lt hv k hk).2)).symm⟩
theorem Out.next {w w' : World} {b : Nat} {s t s' t' x x' y : Value} {vs us : List Value} (h : Out s t vs us y) (hk : KFr w w' b s t s' t' x') (hy : ∀ k, y.ownBlock = some k → k < w.heap.size) (hxy : ApartV x y) : Out s' t' (vs ++ [x]) (us ++ [x']) y := by
  obtain ⟨h1, h2, h3⟩ := hk.far hy h.1 h.2.1
  refine ⟨h1, h2, fun v hv => ?_, fun v hv => ?_⟩
  · rcases List.mem_append.1 hv with hv | hv
    · exact h.2.2.1 v hv
    · simp at hv; subst hv; exact hxy
  · rcases List.mem_append.1 hv with hv | hv
    · exact h.2.2.2 v hv
    · simp at hv; subst hv; exact h3
theorem apart_none (v : Value) : ApartV v (.slice none 0 0) := ApartV.symm (.inl rfl)
end Go.Proofs.YtgggpaacagbmcaaGreat


/- append at a step of a region: lists whose elements lie in blocks of a given kind. -/
set_option linter.unusedVariables false
set_option linter.unusedSimpArgs false
namespace Go.Proofs.YtgggpaacagbmcaaGreat
open Go.RowKit Go.Maps
section
variable {P : Program} {e : TypeId} {α : Type} {T : Ty P e α} {ops : Array Oper} {o : Oper} {a : Act} {w : World} {K : Act → World → Prop} {Q : Exit → Act → World → Prop} {E : Prop}
theorem step_call (hg : o.guard = none) (f : FuncId) (args : Array Value) (hrun : (execOp a.eval o).run P w = .ok (.enter f args) w) (h : Calls P f args w fun e w' => ∃ v, e = .returned v ∧ K (a.put o.dst v) w') :
    if Region.wanted o (yielded ops a.tmps) = true then Oper.wp P o a w K Q else E := by
  have hw : Region.wanted o (yielded ops a.tmps) = true := by simp [Region.wanted, hg]
  rw [if_pos hw]
  unfold Oper.wp
  rw [hrun, Oper.upon_enter]
  exact h.mono (by rintro e w' ⟨v, rfl, hk⟩; exact hk)
theorem step_appF (hgd : o.guard = none) (s x : Operand) (t : TypeId) (ho : o.op = .call { callee := .builtin .append, args := #[s, x], argTypes := #[t, t] })
    (i : TypeInfo) (z : Value) (bytes : Nat) (ht : P.underlying t = some (.slice e)) (hi : P.info? e = some i) (hz : i.zero = some z) (hsize : i.size = T.n) (hby : i.bytes = bytes) (hzs : z.cells.size = T.n) (hsz : 0 < T.n)
    (h1c : ∀ (w : World) (F : Nat → Prop) (c : List Value) (x : α), T.R w F c x → ∀ u ∈ c, u.oneCell' = true)
    (base : Nat) (F : Nat → Prop) (v : Value) (xs : List α) (hs : a.eval s = v) (hown : OwnF T w base F v xs) (ad : Addr) (c : Nat) (ys : List α) (hx : a.eval x = .slice (some ad) ys.length c)
    (hys : ∀ i x, ys[i]? = some x → ∃ ces, (∀ j u, ces[j]? = some u → w.cell? ((ad.add (i * T.n)).add j) = some u) ∧ T.R w (fun k => F k ∧ some k ≠ v.ownBlock ∧ k < w.heap.size) ces x) (h63 : xs.length + ys.length ≤ maxLen) (hbytes : (xs.length + ys.length) * bytes ≤ 140737488355328) (hbase : base ≤ w.heap.size)
    (h : ∀ v' w', OwnF T w' base F v' (xs ++ ys) → w.grownBy w' v.ownBlock → (v'.ownBlock = v.ownBlock ∨ v'.ownBlock = some w.heap.size) → K (a.put o.dst v') w') :
    if Region.wanted o (yielded ops a.tmps) = true then Oper.wp P o a w K Q else E := by
  obtain ⟨css, h1, h2, h3, h4⟩ := hown
  have hrow : ∃ news : List (List Value), news.length = ys.length ∧ (∀ (i : Nat) (c : List Value) (x : α), news[i]? = some c → ys[i]? = some x → T.R w (fun k => F k ∧ some k ≠ v.ownBlock ∧ k < w.heap.size) c x) ∧ (∀ c ∈ news, c.length = T.n) ∧
      ∀ (j : Nat) (u : Value), news.flatten[j]? = some u → w.cell? (ad.add j) = some u := by
    clear h hx h63 hbytes h1 h2 h3 h4
    revert ad
    induction ys with
    | nil => intro ad _; exact ⟨[], rfl, by simp, by simp, by simp⟩
    | cons x r ih =>
      intro ad hys
      obtain ⟨c0, hc, hr⟩ := hys 0 x rfl
      obtain ⟨css, h1, h2, h3, h4⟩ := ih (ad.add T.n) (fun i y hy => by
        obtain ⟨ces, hc, hr⟩ := hys (i + 1) y (by simpa using hy)
        refine ⟨ces, fun j u hu => ?_, hr⟩
        have := hc j u hu
        rw [← this, Go.Addr.add_add, Go.Addr.add_add, Go.Addr.add_add]
        congr 2
        rw [Nat.add_mul]
        omega)
      have hl0 := T.len hr
      refine ⟨c0 :: css, by simp [h1], ?_, ?_, ?_⟩
      · intro i c y hi hy
        cases i with
        | zero => simp at hi hy; subst hi; subst hy; exact hr
        | succ i => exact h2 i c y (by simpa using hi) (by simpa using hy)
      · intro c hc'
        rcases List.mem_cons.1 hc' with rfl | h
        · exact hl0
        · exact h3 c h
      · intro j u hj
        rw [List.flatten_cons] at hj
        by_cases hlt' : j < c0.length
        · rw [List.getElem?_append_left hlt'] at hj
          have := hc j u hj
          rwa [Nat.zero_mul, Go.Addr.add_add, Nat.zero_add] at this
        · rw [List.getElem?_append_right (by omega)] at hj
          have := h4 _ u hj
          rw [Go.Addr.add_add] at this
          rw [← this]
          congr 2
          omega
  obtain ⟨news, n2, n4, n3, n5⟩ := hrow
  have hw : Region.wanted o (yielded ops a.tmps) = true := by simp [Region.wanted, hgd]
  rw [if_pos hw]
  obtain ⟨v', w', hrun, r1, r2, r3, r4⟩ := run_append_own_at (P := P) w base t o.type e i z T.n bytes ht hi hz hsize hby hzs hsz v xs.length css.flatten h1 ad ys.length c news.flatten (by rw [flat_len n3, n2]) n5 (by
    intro u hu
    obtain ⟨c', hc', hu'⟩ := List.mem_flatten.1 hu
    obtain ⟨k, hk, rfl⟩ := List.mem_iff_getElem.1 hc'
    exact h1c w _ _ _ (n4 k _ _ (List.getElem?_eq_getElem hk) (List.getElem?_eq_getElem (by omega))) u hu') h63 hbytes hbase
  unfold Oper.wp
  simp [execOp, ho, resolve, invoke, builtin, hs, hx, hrun, Result.andThen]
  exact h v' w' (OwnF.app h2 h3 h4 n2 n3 n4 r1 r2 r4) r2 r4
end
end Go.Proofs.YtgggpaacagbmcaaGreat


/- variorumbook: Book.Balances, walked. -/
set_option linter.unusedVariables false
set_option linter.unusedSimpArgs false
namespace Go.Proofs.YtgggpaacagbmcaaGreat
open Go.RowKit Go.Maps Go.Deep

theorem kbal_done {w wx w5 w6 : World} {b base gb gd : Nat} {s t s' x x' : Value} {vs us : List Value} {L : List (List (Int × Int))} {l : List (Int × Int)} (h : KeptB w b base s t vs us L) (hx : OwnL tBal w base x l)
    (ha : ApartV s x ∧ ApartV t x ∧ (∀ v ∈ vs, ApartV v x) ∧ ∀ v ∈ us, ApartV v x) (hbs : base ≤ w.heap.size) (F1 : Fr w wx b s) (B1 : But (fun k => b ≤ k) w wx) (os : OwnL tBalV wx base s' (vs ++ [x])) (as_ : s'.ownBlock = s.ownBlock ∨ ∀ k, s'.ownBlock = some k → w.heap.size ≤ k)
    (ht : OwnL tBalV wx base t us) (hb5 : Below wx.heap.size wx w5) (ho5 : OwnL tBal w5 wx.heap.size x' l) (hg : (w5.alloc (.cells #[x'] 49)).grownBy w6 t.ownBlock) (ho6 : OwnL tBalV w6 base (.slice (some ⟨gb, 0, none⟩) (us.length + 1) gd) (us ++ [x']))
    (hat : (Value.slice (some ⟨gb, 0, none⟩) (us.length + 1) gd).ownBlock = t.ownBlock ∨ (Value.slice (some ⟨gb, 0, none⟩) (us.length + 1) gd).ownBlock = some (w5.alloc (.cells #[x'] 49)).heap.size) (hc : w6.heap[b]? = some (.cells (bookB s' t) 48 (0, 0))) :
    (Ending.returned (.tuple #[]) = .returned (.tuple #[])) ∧ But (fun k => b ≤ k) w (w6.setCell ⟨b, 7, none⟩ (.slice (some ⟨gb, 0, none⟩) (us.length + 1) gd)) ∧ ∃ s' t' x', KeptB (w6.setCell ⟨b, 7, none⟩ (.slice (some ⟨gb, 0, none⟩) (us.length + 1) gd)) b base s' t' (vs ++ [x]) (us ++ [x']) (L ++ [l]) ∧ KFr w (w6.setCell ⟨b, 7, none⟩ (.slice (some ⟨gb, 0, none⟩) (us.length + 1) gd)) b s t s' t' x' := by
  have hs5 := hb5.size
  have hs1 := F1.1
  have hs6 := hg.size
  simp at hs6
  have hbt : ∀ k, t.ownBlock = some k → base ≤ k ∧ k < wx.heap.size := ht.lt
  have hbb := h.bb
  have F2 : Fr wx (w6.setCell ⟨b, 7, none⟩ (.slice (some ⟨gb, 0, none⟩) (us.length + 1) gd)) b t := ⟨by simp; omega, fun k hk hkb hks => (Below.heap_setCell w6 ⟨b, 7, none⟩ _ k hkb).trans ((hg.block k (by simp; omega) hks).trans ((Below.heap_alloc w5 _ k (by omega)).trans (hb5.block k hk)))⟩
  have hox : OwnL tBal (w6.setCell ⟨b, 7, none⟩ (.slice (some ⟨gb, 0, none⟩) (us.length + 1) gd)) base x' l := by
    refine (ho5.mono (by omega)).keepF bal_Free (fun k hk => ?_)
    obtain ⟨h1, h2⟩ := ho5.lt k hk
    exact (Below.heap_setCell w6 ⟨b, 7, none⟩ _ k (by show k ≠ b; omega)).trans ((hg.block k (by simp; omega) (fun e => by have := hbt k e.symm; omega)).trans (Below.heap_alloc w5 _ k h2))
  refine ⟨rfl, ?_, s', _, x', ⟨h.add hx ha.1 ha.2.1 ha.2.2.1 ha.2.2.2 F1 os as_ F2 hox (fun k hk => (ho5.lt k hk).1) (ho6.keepF balV_Free (fun k hk => Below.heap_setCell w6 ⟨b, 7, none⟩ _ k (by have := (ho6.lt k hk).1; show k ≠ b; omega))) ?_ ?_ ?_, ⟨by simp; omega, fun k hk hkb hks hkt => (F2.2 k (by omega) hkb hkt).trans (F1.2 k hk hkb hks), as_, ?_, fun k hk => by have := (ho5.lt k hk).1; omega⟩⟩⟩
  · refine But.setCell (p := ⟨b, 7, none⟩) ((((B1.call hb5).alloc _)).grown hg (fun k hk => .inl (by have := hbt k hk; omega))) (.inl (Nat.le_refl _)) _
  · refine hat.imp id (fun e k hk => ?_)
    rw [e] at hk
    injection hk with hk
    simp at hk
    omega
  · rcases hat with e | e
    · exact (apart_new (n := wx.heap.size) (fun k hk => (ho5.lt k hk).1) (fun k hk => (hbt k (by rw [← e]; exact hk)).2)).symm
    · exact apart_new (n := w5.heap.size) (fun k hk => by rw [e] at hk; injection hk with hk; simp at hk; omega) (fun k hk => (ho5.lt k hk).2)
  · have := blk_set hc 7 (.slice (some ⟨gb, 0, none⟩) (us.length + 1) gd)
    simpa [bookB] using this
  · refine hat.imp id (fun e k hk => ?_)
    rw [e] at hk
    injection hk with hk
    simp at hk
    omega

set_option maxHeartbeats 16000000 in
set_option maxRecDepth 100000 in
theorem kbal_any {w : World} {b base : Nat} {s t : Value} {vs us : List Value} {L : List (List (Int × Int))} (h : KeptB w b base s t vs us L) {xa : Option Addr} {xc : Nat} {l : List (Int × Int)} (hx : OwnL tBal w base (.slice xa l.length xc) l)
    (xs : ApartV s (.slice xa l.length xc)) (xt : ApartV t (.slice xa l.length xc)) (xv : ∀ v ∈ vs, ApartV v (.slice xa l.length xc)) (xu : ∀ v ∈ us, ApartV v (.slice xa l.length xc)) (hn : vs.length ≤ 100) (hl : l.length ≤ 100000) (hbs : base ≤ w.heap.size) :
    Calls Tryz.prog 13 #[.pointer (some ⟨b, 0, none⟩), .slice xa l.length xc] w fun e w' => e = .returned (.tuple #[]) ∧ But (fun k => b ≤ k) w w' ∧ ∃ s' t' x', KeptB w' b base s' t' (vs ++ [.slice xa l.length xc]) (us ++ [x']) (L ++ [l]) ∧ KFr w w' b s t s' t' x' := by
  obtain ⟨j0, hj, hy0, hy1, hy2⟩ := info_parts infoBalV
  obtain ⟨sa, sc, rfl, _, _, _⟩ := h.os.slice
  obtain ⟨ta, tc, rfl, _, _, _⟩ := h.ot.slice
  have hun : us.length = vs.length := by rw [h.lu.len, h.lv.len]
  have HUN := Lib.hid hun
  have H := Lib.hid h
  have HX := Lib.hid hx
  have HXS := Lib.hid (And.intro xs (And.intro xt (And.intro xv xu)))
  have hbl := blk_lt h.cell
  have hbb := Lib.hid h.bb
  have hz6 : w.cell? ⟨b, 6, none⟩ = some (.slice sa vs.length sc) := by rw [blk_cells h.cell]; rfl
  have h250 : (vs.length : Int) < 250 := by omega
  have HOA : Hid (OwnL tBalV (w.alloc (.cells #[.slice xa l.length xc] 49)) base (.slice sa vs.length sc) vs) := Lib.hid (h.os.alloc _)
  have HSV : Hid (Sl tBalV (w.alloc (.cells #[.slice xa l.length xc] 49)) (fun k => some k ≠ (Value.slice sa vs.length sc).ownBlock ∧ k < (w.alloc (.cells #[.slice xa l.length xc] 49)).heap.size) (some ⟨w.heap.size, 0, none⟩) [.slice xa l.length xc]) := Lib.hid (sl_oneV (blk_new w _) ⟨fun e => by have := (h.os.lt _ e.symm).2; omega, by simp⟩)
  have hba : (w.alloc (.cells #[.slice xa l.length xc] 49)).heap[b]? = some (.cells (bookB (.slice sa vs.length sc) (.slice ta us.length tc)) 48 (0, 0)) := blk_alloc h.cell _
  have HBA := Lib.hid hba
  have HSB : Hid (∀ k, (Value.slice sa vs.length sc).ownBlock = some k → b < k) := Lib.hid (fun k hk => Nat.lt_of_lt_of_le h.bb (h.os.lt k hk).1)
  clear h hx xs xt xv xu hun hba
  go_enter Tryz.func13, Tryz.ntmps13
  go_wp2_with (at_builtin; refine wp_app (T := tBalV) rfl _ _ 40 rfl j0 (.slice none 0 0) 24 Tryz.underlying40 hj hy0 hy1 hy2 rfl (by decide) balV_one base (.slice sa vs.length sc) vs rfl HOA.out ⟨w.heap.size, 0, none⟩ 1 [.slice xa l.length xc] rfl HSV.out (by unfold maxLen; simp; omega) (by simp; omega) (by simp; omega) ?_; intro v3 w3 hown hg _ hat; have HCB := Lib.hid ((hg.block b (by simp; omega) (fun e => by have := HSB.out b e.symm; omega)).trans HBA.out); obtain ⟨ga, gc, rfl, _⟩ := form_snoc hown; have hz36 : w3.cell? ⟨b, 6, none⟩ = some (.slice sa vs.length sc) := (by rw [blk_cells HCB.out]; rfl); have hf36 := blk_frz HCB.out 6; have HO3 := Lib.hid hown; have HG3 := Lib.hid hg; have HAT3 := Lib.hid hat; clear hown hg hat)
  refine abs_world (S := fun wx => wx.heap[b]? = some (.cells (bookB (.slice (some ⟨ga, 0, none⟩) (vs.length + 1) gc) (.slice ta us.length tc)) 48 (0, 0)) ∧ OwnL tBalV wx base (.slice (some ⟨ga, 0, none⟩) (vs.length + 1) gc) (vs ++ [.slice xa l.length xc]) ∧ Fr w wx b (.slice sa vs.length sc) ∧ But (fun k => b ≤ k) w wx ∧ OwnL tBalV wx base (.slice ta us.length tc) us ∧ OwnL tBal wx base (.slice xa l.length xc) l) ?_ (by
    have hFr : Fr w (w3.setCell ⟨b, 6, none⟩ (.slice (some ⟨ga, 0, none⟩) (vs.length + 1) gc)) b (.slice sa vs.length sc) := ⟨by have := HG3.out.size; simp at this ⊢; omega, fun k hk hkb hks => (Below.heap_setCell w3 ⟨b, 6, none⟩ _ k hkb).trans ((HG3.out.block k (by simp; omega) hks).trans (Below.heap_alloc w _ k hk))⟩
    have hBu : But (fun k => b ≤ k) w (w3.setCell ⟨b, 6, none⟩ (.slice (some ⟨ga, 0, none⟩) (vs.length + 1) gc)) := But.setCell (p := ⟨b, 6, none⟩) ((((But.refl (fun k => b ≤ k) w).alloc _)).grown HG3.out (fun k hk => .inl (by have := HSB.out k hk; omega))) (.inl (Nat.le_refl _)) _
    refine ⟨by have := blk_set HCB.out 6 (.slice (some ⟨ga, 0, none⟩) (vs.length + 1) gc); simpa [bookB] using this, HO3.out.keepF balV_Free (fun k hk => Below.heap_setCell w3 ⟨b, 6, none⟩ _ k (by have := (HO3.out.lt k hk).1; have := hbb.out; show k ≠ b; omega)), hFr, hBu, H.out.ot.fr balV_Free hbb.out hFr H.out.st, HX.out.fr bal_Free hbb.out hFr HXS.out.1⟩)
  rintro wx ⟨hcx, hsx, hfx, hbx, htx, hxx⟩
  have HCX := Lib.hid hcx
  have HSX := Lib.hid hsx
  have HFX := Lib.hid hfx
  have HBX := Lib.hid hbx
  have HTX := Lib.hid htx
  have HXX := Lib.hid hxx
  have hz7 : wx.cell? ⟨b, 7, none⟩ = some (.slice ta us.length tc) := by rw [blk_cells hcx]; rfl
  have hf7 := blk_frz hcx 7
  have hlx := blk_lt hcx
  have h63 : us.length + 1 ≤ maxLen := by have := HUN.out; unfold maxLen; omega
  have hby : (us.length + 1) * 24 ≤ 140737488355328 := by have := HUN.out; omega
  have hbse := hbx.size
  clear hcx hsx hfx hbx htx hxx hz36 hf36
  go_region_law (first
    | (refine step_call rfl 31 #[.slice xa l.length xc] (by simp [execOp, resolve, invoke, Act.eval, Act.put, go_sem]) ?_; refine (cpBal_any (w := wx.drew) (HXX.out.keep (Nat.le_refl _) (fun _ _ => rfl)) hl).mono ?_; rintro en w5 ⟨v5, rfl, ho, hb⟩; refine ⟨_, rfl, ?_⟩; obtain ⟨ca, cc, rfl, _⟩ := ho.slice; have HB5 : Hid (Below wx.heap.size wx w5) := Lib.hid ((Below.drew (Below.refl _ wx)).trans hb); have HO5 : Hid (OwnL tBal w5 wx.heap.size (.slice ca l.length cc) l) := Lib.hid ho; have HC5 := Lib.hid (blk_below HCX.out HB5.out); have hz57 : w5.cell? ⟨b, 7, none⟩ = some (.slice ta us.length tc) := (by rw [blk_cells HC5.out]; rfl); have hf57 := blk_frz HC5.out 7; have hl5 := blk_lt HC5.out; have hs5 := HB5.out.size; have HT5 : Hid (OwnL tBalV (w5.alloc (.cells #[.slice ca l.length cc] 49)) base (.slice ta us.length tc) us) := Lib.hid ((HTX.out.below HB5.out).alloc _); have HV5 : Hid (Sl tBalV (w5.alloc (.cells #[.slice ca l.length cc] 49)) (fun k => some k ≠ (Value.slice ta us.length tc).ownBlock ∧ k < (w5.alloc (.cells #[.slice ca l.length cc] 49)).heap.size) (some ⟨w5.heap.size, 0, none⟩) [.slice ca l.length cc]) := Lib.hid (sl_oneV (blk_new w5 _) ⟨fun e => by have := (HTX.out.lt _ e.symm).2; omega, by simp⟩); clear hb ho)
    | (refine step_app (T := tBalV) rfl (.tmp 24) (.tmp 27) 40 rfl j0 (.slice none 0 0) 24 Tryz.underlying40 hj hy0 hy1 hy2 rfl (by decide) balV_one base (.slice ta us.length tc) us (by simp [Act.eval, Act.put]) HT5.out ⟨w5.heap.size, 0, none⟩ 1 [.slice ca l.length cc] (by simp [Act.eval, Act.put]) HV5.out h63 hby (by simp; omega) ?_; intro v6 w6 hown hg hat; have HC6 := Lib.hid ((hg.block b (by simp; omega) (fun e => by have := (HTX.out.lt _ e.symm).1; have := hbb.out; omega)).trans (blk_alloc HC5.out _)); obtain ⟨gb, gd, rfl, _⟩ := form_snoc hown; have hz67 : w6.cell? ⟨b, 7, none⟩ = some (.slice ta us.length tc) := (by rw [blk_cells HC6.out]; rfl); have hf67 := blk_frz HC6.out 7; have HO6 := Lib.hid hown; have HG6 := Lib.hid hg; have HAT6 := Lib.hid hat; clear hown hg hat))
  all_goals
    go_wp2_with fail
    go_end0
    exact kbal_done H.out HX.out HXS.out hbs HFX.out HBX.out HSX.out (HAT3.out.imp id (fun e k hk => by rw [e] at hk; injection hk with hk; simp at hk; omega)) HTX.out HB5.out HO5.out HG6.out HO6.out HAT6.out HC6.out
end Go.Proofs.YtgggpaacagbmcaaGreat
