/- append at a step of a region: lists whose elements lie in blocks of a given kind. -/
import Derived.Test.YtacemlbfifhllaaGreatX35GatesPlay
import Derived.Test.YtacemlbfifhllaaGreatX34GatesPlay
set_option linter.unusedVariables false
set_option linter.unusedSimpArgs false
namespace Go.Proofs.YtacemlbfifhllaaGreat
open Go.RowKit Go.Maps
section
variable {P : Program} {e : TypeId} {α : Type} {T : Ty P e α} {ops : Array Oper} {o : Oper} {a : Act} {w : World} {K : Act → World → Prop} {Q : Exit → Act → World → Prop} {E : Prop}
theorem step_call (hg : o.guard = none) (f : FuncId) (args : Array Value) (hrun : (execOp a.eval o).run P w = .ok (.enter f args) w) (h : Calls P f args w fun e w' => ∃ v, e = .returned v ∧ K (a.put o.dst v) w') :
    if Region.wanted o (yielded ops a.tmps) = true then Oper.wp P o a w K Q else E := by
  have hw : Region.wanted o (yielded ops a.tmps) = true := by simp [Region.wanted, hg]
  rw [if_pos hw]
  unfold Oper.wp
  rw [hrun, Oper.upon_enter]
  exact h.mono (by rintro e w' ⟨v, rfl, hk⟩; exact hk)
theorem step_appF (hgd : o.guard = none) (s x : Operand) (t : TypeId) (ho : o.op = .call { callee := .builtin .append, args := #[s, x], argTypes := #[t, t] })
    (i : TypeInfo) (z : Value) (bytes : Nat) (ht : P.underlying t = some (.slice e)) (hi : P.info? e = some i) (hz : i.zero = some z) (hsize : i.size = T.n) (hby : i.bytes = bytes) (hzs : z.cells.size = T.n) (hsz : 0 < T.n)
    (h1c : ∀ (w : World) (F : Nat → Prop) (c : List Value) (x : α), T.R w F c x → ∀ u ∈ c, u.oneCell' = true)
    (base : Nat) (F : Nat → Prop) (v : Value) (xs : List α) (hs : a.eval s = v) (hown : OwnF T w base F v xs) (ad : Addr) (c : Nat) (ys : List α) (hx : a.eval x = .slice (some ad) ys.length c)
    (hys : ∀ i x, ys[i]? = some x → ∃ ces, (∀ j u, ces[j]? = some u → w.cell? ((ad.add (i * T.n)).add j) = some u) ∧ T.R w (fun k => F k ∧ some k ≠ v.ownBlock ∧ k < w.heap.size) ces x) (h63 : xs.length + ys.length ≤ maxLen) (hbytes : (xs.length + ys.length) * bytes ≤ 140737488355328) (hbase : base ≤ w.heap.size)
    (h : ∀ v' w', OwnF T w' base F v' (xs ++ ys) → w.grownBy w' v.ownBlock → (v'.ownBlock = v.ownBlock ∨ v'.ownBlock = some w.heap.size) → K (a.put o.dst v') w') :
    if Region.wanted o (yielded ops a.tmps) = true then Oper.wp P o a w K Q else E := by
  obtain ⟨css, h1, h2, h3, h4⟩ := hown
  have hrow : ∃ news : List (List Value), news.length = ys.length ∧ (∀ (i : Nat) (c : List Value) (x : α), news[i]? = some c → ys[i]? = some x → T.R w (fun k => F k ∧ some k ≠ v.ownBlock ∧ k < w.heap.size) c x) ∧ (∀ c ∈ news, c.length = T.n) ∧
      ∀ (j : Nat) (u : Value), news.flatten[j]? = some u → w.cell? (ad.add j) = some u := by
    clear h hx h63 hbytes h1 h2 h3 h4
    revert ad
    induction ys with
    | nil => intro ad _; exact ⟨[], rfl, by simp, by simp, by simp⟩
    | cons x r ih =>
      intro ad hys
      obtain ⟨c0, hc, hr⟩ := hys 0 x rfl
      obtain ⟨css, h1, h2, h3, h4⟩ := ih (ad.add T.n) (fun i y hy => by
        obtain ⟨ces, hc, hr⟩ := hys (i + 1) y (by simpa using hy)
        refine ⟨ces, fun j u hu => ?_, hr⟩
        have := hc j u hu
        rw [← this, Go.Addr.add_add, Go.Addr.add_add, Go.Addr.add_add]
        congr 2
        rw [Nat.add_mul]
        omega)
      have hl0 := T.len hr
      refine ⟨c0 :: css, by simp [h1], ?_, ?_, ?_⟩
      · intro i c y hi hy
        cases i with
        | zero => simp at hi hy; subst hi; subst hy; exact hr
        | succ i => exact h2 i c y (by simpa using hi) (by simpa using hy)
      · intro c hc'
        rcases List.mem_cons.1 hc' with rfl | h
        · exact hl0
        · exact h3 c h
      · intro j u hj
        rw [List.flatten_cons] at hj
        by_cases hlt' : j < c0.length
        · rw [List.getElem?_append_left hlt'] at hj
          have := hc j u hj
          rwa [Nat.zero_mul, Go.Addr.add_add, Nat.zero_add] at this
        · rw [List.getElem?_append_right (by omega)] at hj
          have := h4 _ u hj
          rw [Go.Addr.add_add] at this
          rw [← this]
          congr 2
          omega
  obtain ⟨news, n2, n4, n3, n5⟩ := hrow
  have hw : Region.wanted o (yielded ops a.tmps) = true := by simp [Region.wanted, hgd]
  rw [if_pos hw]
  obtain ⟨v', w', hrun, r1, r2, r3, r4⟩ := run_append_own_at (P := P) w base t o.type e i z T.n bytes ht hi hz hsize hby hzs hsz v xs.length css.flatten h1 ad ys.length c news.flatten (by rw [flat_len n3, n2]) n5 (by
    intro u hu
    obtain ⟨c', hc', hu'⟩ := List.mem_flatten.1 hu
    obtain ⟨k, hk, rfl⟩ := List.mem_iff_getElem.1 hc'
    exact h1c w _ _ _ (n4 k _ _ (List.getElem?_eq_getElem hk) (List.getElem?_eq_getElem (by omega))) u hu') h63 hbytes hbase
  unfold Oper.wp
  simp [execOp, ho, resolve, invoke, builtin, hs, hx, hrun, Result.andThen]
  exact h v' w' (OwnF.app h2 h3 h4 n2 n3 n4 r1 r2 r4) r2 r4
end
end Go.Proofs.YtacemlbfifhllaaGreat


/- variorumbook: Book.Balances, walked. -/
set_option linter.unusedVariables false
set_option linter.unusedSimpArgs false
namespace Go.Proofs.YtacemlbfifhllaaGreat
open Go.RowKit Go.Maps Go.Deep

theorem kbal_done {w wx w5 w6 : World} {b base gb gd : Nat} {s t s' x x' : Value} {vs us : List Value} {L : List (List (Int × Int))} {l : List (Int × Int)} (h : KeptB w b base s t vs us L) (hx : OwnL tBal w base x l)
    (ha : ApartV s x ∧ ApartV t x ∧ (∀ v ∈ vs, ApartV v x) ∧ ∀ v ∈ us, ApartV v x) (hbs : base ≤ w.heap.size) (F1 : Fr w wx b s) (B1 : But (fun k => b ≤ k) w wx) (os : OwnL tBalV wx base s' (vs ++ [x])) (as_ : s'.ownBlock = s.ownBlock ∨ ∀ k, s'.ownBlock = some k → w.heap.size ≤ k)
    (ht : OwnL tBalV wx base t us) (hb5 : Below wx.heap.size wx w5) (ho5 : OwnL tBal w5 wx.heap.size x' l) (hg : (w5.alloc (.cells #[x'] 106)).grownBy w6 t.ownBlock) (ho6 : OwnL tBalV w6 base (.slice (some ⟨gb, 0, none⟩) (us.length + 1) gd) (us ++ [x']))
    (hat : (Value.slice (some ⟨gb, 0, none⟩) (us.length + 1) gd).ownBlock = t.ownBlock ∨ (Value.slice (some ⟨gb, 0, none⟩) (us.length + 1) gd).ownBlock = some (w5.alloc (.cells #[x'] 106)).heap.size) (hc : w6.heap[b]? = some (.cells (bookB s' t) 41 (0, 0))) :
    (Ending.returned (.tuple #[]) = .returned (.tuple #[])) ∧ But (fun k => b ≤ k) w (w6.setCell ⟨b, 7, none⟩ (.slice (some ⟨gb, 0, none⟩) (us.length + 1) gd)) ∧ ∃ s' t' x', KeptB (w6.setCell ⟨b, 7, none⟩ (.slice (some ⟨gb, 0, none⟩) (us.length + 1) gd)) b base s' t' (vs ++ [x]) (us ++ [x']) (L ++ [l]) ∧ KFr w (w6.setCell ⟨b, 7, none⟩ (.slice (some ⟨gb, 0, none⟩) (us.length + 1) gd)) b s t s' t' x' := by
  have hs5 := hb5.size
  have hs1 := F1.1
  have hs6 := hg.size
  simp at hs6
  have hbt : ∀ k, t.ownBlock = some k → base ≤ k ∧ k < wx.heap.size := ht.lt
  have hbb := h.bb
  have F2 : Fr wx (w6.setCell ⟨b, 7, none⟩ (.slice (some ⟨gb, 0, none⟩) (us.length + 1) gd)) b t := ⟨by simp; omega, fun k hk hkb hks => (Below.heap_setCell w6 ⟨b, 7, none⟩ _ k hkb).trans ((hg.block k (by simp; omega) hks).trans ((Below.heap_alloc w5 _ k (by omega)).trans (hb5.block k hk)))⟩
  have hox : OwnL tBal (w6.setCell ⟨b, 7, none⟩ (.slice (some ⟨gb, 0, none⟩) (us.length + 1) gd)) base x' l := by
    refine (ho5.mono (by omega)).keepF bal_Free (fun k hk => ?_)
    obtain ⟨h1, h2⟩ := ho5.lt k hk
    exact (Below.heap_setCell w6 ⟨b, 7, none⟩ _ k (by show k ≠ b; omega)).trans ((hg.block k (by simp; omega) (fun e => by have := hbt k e.symm; omega)).trans (Below.heap_alloc w5 _ k h2))
  refine ⟨rfl, ?_, s', _, x', ⟨h.add hx ha.1 ha.2.1 ha.2.2.1 ha.2.2.2 F1 os as_ F2 hox (fun k hk => (ho5.lt k hk).1) (ho6.keepF balV_Free (fun k hk => Below.heap_setCell w6 ⟨b, 7, none⟩ _ k (by have := (ho6.lt k hk).1; show k ≠ b; omega))) ?_ ?_ ?_, ⟨by simp; omega, fun k hk hkb hks hkt => (F2.2 k (by omega) hkb hkt).trans (F1.2 k hk hkb hks), as_, ?_, fun k hk => by have := (ho5.lt k hk).1; omega⟩⟩⟩
  · refine But.setCell (p := ⟨b, 7, none⟩) ((((B1.call hb5).alloc _)).grown hg (fun k hk => .inl (by have := hbt k hk; omega))) (.inl (Nat.le_refl _)) _
  · refine hat.imp id (fun e k hk => ?_)
    rw [e] at hk
    injection hk with hk
    simp at hk
    omega
  · rcases hat with e | e
    · exact (apart_new (n := wx.heap.size) (fun k hk => (ho5.lt k hk).1) (fun k hk => (hbt k (by rw [← e]; exact hk)).2)).symm
    · exact apart_new (n := w5.heap.size) (fun k hk => by rw [e] at hk; injection hk with hk; simp at hk; omega) (fun k hk => (ho5.lt k hk).2)
  · have := blk_set hc 7 (.slice (some ⟨gb, 0, none⟩) (us.length + 1) gd)
    simpa [bookB] using this
  · refine hat.imp id (fun e k hk => ?_)
    rw [e] at hk
    injection hk with hk
    simp at hk
    omega

end Go.Proofs.YtacemlbfifhllaaGreat
