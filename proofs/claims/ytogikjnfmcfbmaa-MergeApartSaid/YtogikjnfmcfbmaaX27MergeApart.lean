/- Steps of regions that draw their order: an append to a list of the call's own, a store into a map. -/
import Derived.Test.YtogikjnfmcfbmaaX17MergeApart
import Derived.Test.YtogikjnfmcfbmaaX04MergeApart
import Derived.Deep.RegionLaw
import Derived.Laws.AppendOwnNone
set_option linter.unusedVariables false
set_option linter.unusedSimpArgs false
namespace Go.Proofs.Ytogikjnfmcfbmaa
open Go.RowKit Go.Maps

section
variable {P : Program} {e : TypeId} {α : Type} {T : Ty P e α} {ops : Array Oper} {o : Oper} {a : Act} {w : World} {K : Act → World → Prop} {Q : Exit → Act → World → Prop} {E : Prop}
theorem step_app (hgd : o.guard = none) (s x : Operand) (t : TypeId) (ho : o.op = .call { callee := .builtin .append, args := #[s, x], argTypes := #[t, t] })
    (i : TypeInfo) (z : Value) (bytes : Nat) (ht : P.underlying t = some (.slice e)) (hi : P.info? e = some i) (hz : i.zero = some z) (hsize : i.size = T.n) (hby : i.bytes = bytes) (hzs : z.cells.size = T.n) (hsz : 0 < T.n)
    (h1c : ∀ (w : World) (F : Nat → Prop) (c : List Value) (x : α), T.R w F c x → ∀ u ∈ c, u.oneCell' = true)
    (base : Nat) (v : Value) (xs : List α) (hs : a.eval s = v) (hown : OwnL T w base v xs) (ad : Addr) (c : Nat) (ys : List α) (hx : a.eval x = .slice (some ad) ys.length c)
    (hys : Sl T w (fun k => some k ≠ v.ownBlock ∧ k < w.heap.size) (some ad) ys) (h63 : xs.length + ys.length ≤ maxLen) (hbytes : (xs.length + ys.length) * bytes ≤ 140737488355328) (hbase : base ≤ w.heap.size)
    (h : ∀ v' w', OwnL T w' base v' (xs ++ ys) → w.grownBy w' v.ownBlock → (v'.ownBlock = v.ownBlock ∨ v'.ownBlock = some w.heap.size) → K (a.put o.dst v') w') :
    if Region.wanted o (yielded ops a.tmps) = true then Oper.wp P o a w K Q else E := by
  have hw : Region.wanted o (yielded ops a.tmps) = true := by simp [Region.wanted, hgd]
  rw [if_pos hw]
  obtain ⟨css, h1, h2, h3, h4⟩ := hown
  obtain ⟨news, n2, n4, n3, n5⟩ := hys.rows
  obtain ⟨v', w', hrun, r1, r2, r3, r4⟩ := run_append_own_at (P := P) w base t o.type e i z T.n bytes ht hi hz hsize hby hzs hsz v xs.length css.flatten h1 ad ys.length c news.flatten (by rw [flat_len n3, n2]) n5 (by
    intro u hu
    obtain ⟨c', hc', hu'⟩ := List.mem_flatten.1 hu
    obtain ⟨k, hk, rfl⟩ := List.mem_iff_getElem.1 hc'
    exact h1c w _ _ _ (n4 k _ _ (List.getElem?_eq_getElem hk) (List.getElem?_eq_getElem (by omega))) u hu') h63 hbytes hbase
  unfold Oper.wp
  simp [execOp, ho, resolve, invoke, builtin, hs, hx, hrun, Result.andThen]
  exact h v' w' (OwnL.app h2 h3 h4 n2 n3 n4 r1 r2 r4) r2 r4
end
section
variable {P : Program} {t : TypeId} {κ ν : Type} [DecidableEq κ] {M : MK P t κ} {ev : ν → Value} {ops : Array Oper} {o : Oper} {a : Act} {w : World} {K : Act → World → Prop} {Q : Exit → Act → World → Prop} {E : Prop}
theorem step_update (hg : o.guard = none) (m x v : Operand) (T : TypeId) (hop : o.op = Op.mapUpdate T m x v) (e : TypeId) (ht : P.underlying T = some (.map t e)) (b : Nat) (l : List (κ × ν)) (k : κ) (y : ν)
    (hm : a.eval m = .map (some b)) (hx : a.eval x = M.ek k) (hv : a.eval v = ev y) (h : MapIs M ev w b l) (hk : M.ok k)
    (hK : ∀ w', MapIs M ev w' b (ins l k y) → OnlyB w w' b → K (a.put o.dst undef) w') : if Region.wanted o (yielded ops a.tmps) = true then Oper.wp P o a w K Q else E := by
  have hw : Region.wanted o (yielded ops a.tmps) = true := by simp [Region.wanted, hg]
  rw [if_pos hw]
  obtain ⟨w', hrun, r1, r2⟩ := h.update ht hk y
  unfold Oper.wp
  simp [execOp, hop, hm, hx, hv, hrun, Result.andThen]
  exact hK w' r1 r2
end

theorem look_ins {κ ν : Type} [DecidableEq κ] (l : List (κ × ν)) (k : κ) (v : ν) (j : κ) : look (ins l k v) j = if j = k then some v else look l j := by
  induction l with
  | nil =>
    by_cases h : j = k
    · subst h; simp [ins, look]
    · have : ¬ k = j := fun e => h e.symm
      simp [ins, look, h, this]
  | cons x r ih =>
    unfold ins
    by_cases hx : x.1 = k
    · rw [if_pos hx]
      by_cases h : j = k
      · subst h; simp [look]
      · have h1 : ¬ k = j := fun e => h e.symm
        have h2 : ¬ x.1 = j := fun e => h (e.symm.trans hx)
        simp [look, h, h1, h2]
    · rw [if_neg hx]
      by_cases hj : x.1 = j
      · have : ¬ j = k := fun e => hx (hj.trans e)
        simp [look, hj, this]
      · have e1 : look (x :: ins r k v) j = look (ins r k v) j := by simp [look, hj]
        have e2 : look (x :: r) j = look r j := by simp [look, hj]
        rw [e1, e2, ih]
end Go.Proofs.Ytogikjnfmcfbmaa


/- append at a step of a region, where the list behind may be nil. -/
set_option linter.unusedVariables false
set_option linter.unusedSimpArgs false
namespace Go.Proofs.Ytogikjnfmcfbmaa
open Go.RowKit Go.Maps
section
variable {P : Program} {e : TypeId} {α : Type} {T : Ty P e α} {ops : Array Oper} {o : Oper} {a : Act} {w : World} {K : Act → World → Prop} {Q : Exit → Act → World → Prop} {E : Prop}
theorem step_appA (hgd : o.guard = none) (s x : Operand) (t : TypeId) (ho : o.op = .call { callee := .builtin .append, args := #[s, x], argTypes := #[t, t] })
    (i : TypeInfo) (z : Value) (bytes : Nat) (ht : P.underlying t = some (.slice e)) (hi : P.info? e = some i) (hz : i.zero = some z) (hsize : i.size = T.n) (hby : i.bytes = bytes) (hzs : z.cells.size = T.n) (hsz : 0 < T.n)
    (h1c : ∀ (w : World) (F : Nat → Prop) (c : List Value) (x : α), T.R w F c x → ∀ u ∈ c, u.oneCell' = true)
    (base : Nat) (v : Value) (xs : List α) (hs : a.eval s = v) (hown : OwnL T w base v xs) (ad : Option Addr) (c : Nat) (ys : List α) (hx : a.eval x = .slice ad ys.length c) (hnil : ad = none → ys = [] ∧ c = 0)
    (hys : Sl T w (fun k => some k ≠ v.ownBlock ∧ k < w.heap.size) ad ys) (h63 : xs.length + ys.length ≤ maxLen) (hbytes : (xs.length + ys.length) * bytes ≤ 140737488355328) (hbase : base ≤ w.heap.size)
    (h : ∀ v' w', OwnL T w' base v' (xs ++ ys) → w.grownBy w' v.ownBlock → (v'.ownBlock = v.ownBlock ∨ v'.ownBlock = some w.heap.size) → K (a.put o.dst v') w') :
    if Region.wanted o (yielded ops a.tmps) = true then Oper.wp P o a w K Q else E := by
  cases ad with
  | some ad => exact step_app hgd s x t ho i z bytes ht hi hz hsize hby hzs hsz h1c base v xs hs hown ad c ys hx hys h63 hbytes hbase h
  | none =>
    obtain ⟨rfl, rfl⟩ := hnil rfl
    obtain ⟨css, hr, h2⟩ := hown
    have hw : Region.wanted o (yielded ops a.tmps) = true := by simp [Region.wanted, hgd]
    rw [if_pos hw]
    have hrun := run_append_owned_none (P := P) (w := w) base t o.type e i T.n ht hi v xs.length css.flatten hr
    unfold Oper.wp
    have hx' : a.eval x = .slice none 0 0 := hx
    simp [execOp, ho, resolve, invoke, builtin, hs, hx', hrun, Result.andThen]
    exact h v w (by rw [List.append_nil]; exact ⟨css, hr, h2⟩) ⟨rfl, rfl, rfl, Nat.le_refl _, fun _ _ _ => rfl⟩ (.inl rfl)
end
end Go.Proofs.Ytogikjnfmcfbmaa


/- append at a step of a region: lists whose elements lie in blocks of a given kind. -/
set_option linter.unusedVariables false
set_option linter.unusedSimpArgs false
namespace Go.Proofs.Ytogikjnfmcfbmaa
open Go.RowKit Go.Maps
section
variable {P : Program} {e : TypeId} {α : Type} {T : Ty P e α} {ops : Array Oper} {o : Oper} {a : Act} {w : World} {K : Act → World → Prop} {Q : Exit → Act → World → Prop} {E : Prop}
theorem step_call (hg : o.guard = none) (f : FuncId) (args : Array Value) (hrun : (execOp a.eval o).run P w = .ok (.enter f args) w) (h : Calls P f args w fun e w' => ∃ v, e = .returned v ∧ K (a.put o.dst v) w') :
    if Region.wanted o (yielded ops a.tmps) = true then Oper.wp P o a w K Q else E := by
  have hw : Region.wanted o (yielded ops a.tmps) = true := by simp [Region.wanted, hg]
  rw [if_pos hw]
  unfold Oper.wp
  rw [hrun, Oper.upon_enter]
  exact h.mono (by rintro e w' ⟨v, rfl, hk⟩; exact hk)
theorem step_appF (hgd : o.guard = none) (s x : Operand) (t : TypeId) (ho : o.op = .call { callee := .builtin .append, args := #[s, x], argTypes := #[t, t] })
    (i : TypeInfo) (z : Value) (bytes : Nat) (ht : P.underlying t = some (.slice e)) (hi : P.info? e = some i) (hz : i.zero = some z) (hsize : i.size = T.n) (hby : i.bytes = bytes) (hzs : z.cells.size = T.n) (hsz : 0 < T.n)
    (h1c : ∀ (w : World) (F : Nat → Prop) (c : List Value) (x : α), T.R w F c x → ∀ u ∈ c, u.oneCell' = true)
    (base : Nat) (F : Nat → Prop) (v : Value) (xs : List α) (hs : a.eval s = v) (hown : OwnF T w base F v xs) (ad : Addr) (c : Nat) (ys : List α) (hx : a.eval x = .slice (some ad) ys.length c)
    (hys : ∀ i x, ys[i]? = some x → ∃ ces, (∀ j u, ces[j]? = some u → w.cell? ((ad.add (i * T.n)).add j) = some u) ∧ T.R w (fun k => F k ∧ some k ≠ v.ownBlock ∧ k < w.heap.size) ces x) (h63 : xs.length + ys.length ≤ maxLen) (hbytes : (xs.length + ys.length) * bytes ≤ 140737488355328) (hbase : base ≤ w.heap.size)
    (h : ∀ v' w', OwnF T w' base F v' (xs ++ ys) → w.grownBy w' v.ownBlock → (v'.ownBlock = v.ownBlock ∨ v'.ownBlock = some w.heap.size) → K (a.put o.dst v') w') :
    if Region.wanted o (yielded ops a.tmps) = true then Oper.wp P o a w K Q else E := by
  obtain ⟨css, h1, h2, h3, h4⟩ := hown
  have hrow : ∃ news : List (List Value), news.length = ys.length ∧ (∀ (i : Nat) (c : List Value) (x : α), news[i]? = some c → ys[i]? = some x → T.R w (fun k => F k ∧ some k ≠ v.ownBlock ∧ k < w.heap.size) c x) ∧ (∀ c ∈ news, c.length = T.n) ∧
      ∀ (j : Nat) (u : Value), news.flatten[j]? = some u → w.cell? (ad.add j) = some u := by
    clear h hx h63 hbytes h1 h2 h3 h4
    revert ad
    induction ys with
    | nil => intro ad _; exact ⟨[], rfl, by simp, by simp, by simp⟩
    | cons x r ih =>
      intro ad hys
      obtain ⟨c0, hc, hr⟩ := hys 0 x rfl
      obtain ⟨css, h1, h2, h3, h4⟩ := ih (ad.add T.n) (fun i y hy => by
        obtain ⟨ces, hc, hr⟩ := hys (i + 1) y (by simpa using hy)
        refine ⟨ces, fun j u hu => ?_, hr⟩
        have := hc j u hu
        rw [← this, Go.Addr.add_add, Go.Addr.add_add, Go.Addr.add_add]
        congr 2
        rw [Nat.add_mul]
        omega)
      have hl0 := T.len hr
      refine ⟨c0 :: css, by simp [h1], ?_, ?_, ?_⟩
      · intro i c y hi hy
        cases i with
        | zero => simp at hi hy; subst hi; subst hy; exact hr
        | succ i => exact h2 i c y (by simpa using hi) (by simpa using hy)
      · intro c hc'
        rcases List.mem_cons.1 hc' with rfl | h
        · exact hl0
        · exact h3 c h
      · intro j u hj
        rw [List.flatten_cons] at hj
        by_cases hlt' : j < c0.length
        · rw [List.getElem?_append_left hlt'] at hj
          have := hc j u hj
          rwa [Nat.zero_mul, Go.Addr.add_add, Nat.zero_add] at this
        · rw [List.getElem?_append_right (by omega)] at hj
          have := h4 _ u hj
          rw [Go.Addr.add_add] at this
          rw [← this]
          congr 2
          omega
  obtain ⟨news, n2, n4, n3, n5⟩ := hrow
  have hw : Region.wanted o (yielded ops a.tmps) = true := by simp [Region.wanted, hgd]
  rw [if_pos hw]
  obtain ⟨v', w', hrun, r1, r2, r3, r4⟩ := run_append_own_at (P := P) w base t o.type e i z T.n bytes ht hi hz hsize hby hzs hsz v xs.length css.flatten h1 ad ys.length c news.flatten (by rw [flat_len n3, n2]) n5 (by
    intro u hu
    obtain ⟨c', hc', hu'⟩ := List.mem_flatten.1 hu
    obtain ⟨k, hk, rfl⟩ := List.mem_iff_getElem.1 hc'
    exact h1c w _ _ _ (n4 k _ _ (List.getElem?_eq_getElem hk) (List.getElem?_eq_getElem (by omega))) u hu') h63 hbytes hbase
  unfold Oper.wp
  simp [execOp, ho, resolve, invoke, builtin, hs, hx, hrun, Result.andThen]
  exact h v' w' (OwnF.app h2 h3 h4 n2 n3 n4 r1 r2 r4) r2 r4
end
end Go.Proofs.Ytogikjnfmcfbmaa
