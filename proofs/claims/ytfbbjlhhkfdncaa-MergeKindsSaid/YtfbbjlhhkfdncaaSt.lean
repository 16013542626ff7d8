/- Steps of regions that draw their order: an append to a list of the call's own, a store into a map. -/
import Derived.Test.YtfbbjlhhkfdncaaOf
import Derived.Test.YtfbbjlhhkfdncaaIk
import Derived.Deep.RegionLaw
set_option linter.unusedVariables false
set_option linter.unusedSimpArgs false
namespace Go.Proofs.Ytfbbjlhhkfdncaa
open Go.RowKit Go.Maps

section
variable {P : Program} {e : TypeId} {α : Type} {T : Ty P e α} {ops : Array Oper} {o : Oper} {a : Act} {w : World} {K : Act → World → Prop} {Q : Exit → Act → World → Prop} {E : Prop}
theorem step_app (hgd : o.guard = none) (s x : Operand) (t : TypeId) (ho : o.op = .call { callee := .builtin .append, args := #[s, x], argTypes := #[t, t] })
    (i : TypeInfo) (z : Value) (bytes : Nat) (ht : P.underlying t = some (.slice e)) (hi : P.info? e = some i) (hz : i.zero = some z) (hsize : i.size = T.n) (hby : i.bytes = bytes) (hzs : z.cells.size = T.n) (hsz : 0 < T.n)
    (h1c : ∀ (w : World) (F : Nat → Prop) (c : List Value) (x : α), T.R w F c x → ∀ u ∈ c, u.oneCell' = true)
    (base : Nat) (v : Value) (xs : List α) (hs : a.eval s = v) (hown : OwnL T w base v xs) (ad : Addr) (c : Nat) (ys : List α) (hx : a.eval x = .slice (some ad) ys.length c)
    (hys : Sl T w (fun k => some k ≠ v.ownBlock ∧ k < w.heap.size) (some ad) ys) (h63 : xs.length + ys.length ≤ maxLen) (hbytes : (xs.length + ys.length) * bytes ≤ 140737488355328) (hbase : base ≤ w.heap.size)
    (h : ∀ v' w', OwnL T w' base v' (xs ++ ys) → w.grownBy w' v.ownBlock → (v'.ownBlock = v.ownBlock ∨ v'.ownBlock = some w.heap.size) → K (a.put o.dst v') w') :
    if Region.wanted o (yielded ops a.tmps) = true then Oper.wp P o a w K Q else E := by
  have hw : Region.wanted o (yielded ops a.tmps) = true := by simp [Region.wanted, hgd]
  rw [if_pos hw]
  obtain ⟨css, h1, h2, h3, h4⟩ := hown
  obtain ⟨news, n2, n4, n3, n5⟩ := hys.rows
  obtain ⟨v', w', hrun, r1, r2, r3, r4⟩ := run_append_own_at (P := P) w base t o.type e i z T.n bytes ht hi hz hsize hby hzs hsz v xs.length css.flatten h1 ad ys.length c news.flatten (by rw [flat_len n3, n2]) n5 (by
    intro u hu
    obtain ⟨c', hc', hu'⟩ := List.mem_flatten.1 hu
    obtain ⟨k, hk, rfl⟩ := List.mem_iff_getElem.1 hc'
    exact h1c w _ _ _ (n4 k _ _ (List.getElem?_eq_getElem hk) (List.getElem?_eq_getElem (by omega))) u hu') h63 hbytes hbase
  unfold Oper.wp
  simp [execOp, ho, resolve, invoke, builtin, hs, hx, hrun, Result.andThen]
  exact h v' w' (OwnL.app h2 h3 h4 n2 n3 n4 r1 r2 r4) r2 r4
end
section
variable {P : Program} {t : TypeId} {κ ν : Type} [DecidableEq κ] {M : MK P t κ} {ev : ν → Value} {ops : Array Oper} {o : Oper} {a : Act} {w : World} {K : Act → World → Prop} {Q : Exit → Act → World → Prop} {E : Prop}
theorem step_update (hg : o.guard = none) (m x v : Operand) (T : TypeId) (hop : o.op = Op.mapUpdate T m x v) (e : TypeId) (ht : P.underlying T = some (.map t e)) (b : Nat) (l : List (κ × ν)) (k : κ) (y : ν)
    (hm : a.eval m = .map (some b)) (hx : a.eval x = M.ek k) (hv : a.eval v = ev y) (h : MapIs M ev w b l) (hk : M.ok k)
    (hK : ∀ w', MapIs M ev w' b (ins l k y) → OnlyB w w' b → K (a.put o.dst undef) w') : if Region.wanted o (yielded ops a.tmps) = true then Oper.wp P o a w K Q else E := by
  have hw : Region.wanted o (yielded ops a.tmps) = true := by simp [Region.wanted, hg]
  rw [if_pos hw]
  obtain ⟨w', hrun, r1, r2⟩ := h.update ht hk y
  unfold Oper.wp
  simp [execOp, hop, hm, hx, hv, hrun, Result.andThen]
  exact hK w' r1 r2
end

theorem look_ins {κ ν : Type} [DecidableEq κ] (l : List (κ × ν)) (k : κ) (v : ν) (j : κ) : look (ins l k v) j = if j = k then some v else look l j := by
  induction l with
  | nil =>
    by_cases h : j = k
    · subst h; simp [ins, look]
    · have : ¬ k = j := fun e => h e.symm
      simp [ins, look, h, this]
  | cons x r ih =>
    unfold ins
    by_cases hx : x.1 = k
    · rw [if_pos hx]
      by_cases h : j = k
      · subst h; simp [look]
      · have h1 : ¬ k = j := fun e => h e.symm
        have h2 : ¬ x.1 = j := fun e => h (e.symm.trans hx)
        simp [look, h, h1, h2]
    · rw [if_neg hx]
      by_cases hj : x.1 = j
      · have : ¬ j = k := fun e => hx (hj.trans e)
        simp [look, hj, this]
      · have e1 : look (x :: ins r k v) j = look (ins r k v) j := by simp [look, hj]
        have e2 : look (x :: r) j = look r j := by simp [look, hj]
        rw [e1, e2, ih]
end Go.Proofs.Ytfbbjlhhkfdncaa
