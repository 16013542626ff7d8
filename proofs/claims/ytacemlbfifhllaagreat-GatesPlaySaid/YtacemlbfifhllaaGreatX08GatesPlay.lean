/- Lists of a call's own whose elements lie in blocks of a given kind: kept, grown, cut to plain lists. -/
import Derived.Test.YtacemlbfifhllaaGreatX05GatesPlay
set_option linter.unusedVariables false
set_option linter.unusedSimpArgs false
namespace Go.Proofs.YtacemlbfifhllaaGreat
open Go.RowKit

section
variable {P : Program} {e : TypeId} {α : Type} {T : Ty P e α}

variable (T) in
/-- v is a list of the call's own: in a block from base on; its elements lie in blocks of F, and not in its own. -/
def OwnF (w : World) (base : Nat) (F : Nat → Prop) (v : Value) (xs : List α) : Prop :=
  ∃ css : List (List Value), w.ownsRow base e T.n v xs.length css.flatten ∧ css.length = xs.length ∧ (∀ c ∈ css, c.length = T.n) ∧
    ∀ (i : Nat) (c : List Value) (x : α), css[i]? = some c → xs[i]? = some x → T.R w (fun k => F k ∧ some k ≠ v.ownBlock ∧ k < w.heap.size) c x

theorem OwnF.nil (w : World) (base : Nat) (F : Nat → Prop) : OwnF T w base F (.slice none 0 0) [] := ⟨[], ⟨by simp, .inl ⟨rfl, rfl⟩⟩, rfl, by simp, by simp⟩

theorem OwnF.weak {w : World} {base : Nat} {F G : Nat → Prop} {v : Value} {xs : List α} (h : OwnF T w base F v xs) (hFG : ∀ k, F k → some k ≠ v.ownBlock → k < w.heap.size → G k) : OwnF T w base G v xs := by
  obtain ⟨css, h1, h2, h3, h4⟩ := h
  exact ⟨css, h1, h2, h3, fun i c x hi hx => T.mono (fun k _ hk => ⟨hFG k hk.1 hk.2.1 hk.2.2, hk.2⟩) (h4 i c x hi hx)⟩
theorem OwnF.own {w : World} {base : Nat} {F : Nat → Prop} {v : Value} {xs : List α} (h : OwnF T w base F v xs) : OwnL T w base v xs := by
  obtain ⟨css, h1, h2, h3, h4⟩ := h
  exact ⟨css, h1, h2, h3, fun i c x hi hx => T.mono (fun k _ hk => hk.2) (h4 i c x hi hx)⟩
theorem OwnL.ownF {w : World} {base : Nat} {v : Value} {xs : List α} (h : OwnL T w base v xs) : OwnF T w base (fun _ => True) v xs := by
  obtain ⟨css, h1, h2, h3, h4⟩ := h
  exact ⟨css, h1, h2, h3, fun i c x hi hx => T.mono (fun k _ hk => ⟨trivial, hk⟩) (h4 i c x hi hx)⟩
theorem OwnF.lt {w : World} {base : Nat} {F : Nat → Prop} {v : Value} {xs : List α} (h : OwnF T w base F v xs) : ∀ k, v.ownBlock = some k → base ≤ k ∧ k < w.heap.size := h.own.lt

theorem OwnF.slice {w : World} {base : Nat} {F : Nat → Prop} {v : Value} {xs : List α} (h : OwnF T w base F v xs) : ∃ a cap, v = .slice a xs.length cap ∧ xs.length ≤ cap ∧ cap ≤ maxLen ∧ Sl T w (fun k => (F k ∧ k < w.heap.size) ∨ v.ownBlock = some k) a xs := by
  obtain ⟨css, h1, h2, h3, h4⟩ := h
  rcases h1.2 with ⟨rfl, h0⟩ | ⟨g, cap, cur, rfl, hb, hc, hn, hm, hcs, ht⟩
  · rw [h0]
    refine ⟨none, 0, rfl, Nat.le_refl _, Nat.zero_le _, fun i x hi => ?_⟩
    have := (List.getElem?_eq_some_iff.1 hi).1
    omega
  · refine ⟨_, cap, rfl, hn, hm, fun i x hi => ?_⟩
    have hil := (List.getElem?_eq_some_iff.1 hi).1
    have hci : css[i]? = some css[i] := List.getElem?_eq_getElem (by omega)
    refine ⟨_, css[i], rfl, .inr rfl, (Array.getElem?_eq_some_iff.1 hc).1, fun j u hu => ?_, T.mono (fun _ _ hk => .inl ⟨hk.1, hk.2.2⟩) (h4 i _ x hci hi)⟩
    have hfl := flat_at h3 i j _ u hci hu
    rw [Go.Addr.add_add]
    have hlt := (List.getElem?_eq_some_iff.1 hfl).1
    rw [← ht] at hfl
    rw [List.getElem?_take] at hfl
    split at hfl
    · have : (⟨g, 0, none⟩ : Addr).add (i * T.n + j) = ⟨g, i * T.n + j, none⟩ := by unfold Addr.add; split <;> simp_all
      rw [this, cell_of_row w g _ cur e (0, 0) hc]
      simpa using hfl
    · cases hfl

theorem OwnF.move {w w' : World} {base : Nat} {F : Nat → Prop} {v : Value} {xs : List α} (h : OwnF T w base F v xs) (hs : w.heap.size ≤ w'.heap.size) (hb : ∀ k, k < w.heap.size → (F k ∨ v.ownBlock = some k) → w'.heap[k]? = w.heap[k]?) : OwnF T w' base F v xs := by
  have hlt := h.lt
  obtain ⟨css, h1, h2, h3, h4⟩ := h
  refine ⟨css, ⟨h1.1, ?_⟩, h2, h3, fun i c x hi hx => ?_⟩
  · rcases h1.2 with ⟨rfl, h0⟩ | ⟨g, cap, cur, rfl, hb', hc, hn, hm, hcs, ht⟩
    · exact .inl ⟨rfl, h0⟩
    · exact .inr ⟨g, cap, cur, rfl, hb', (hb g (Array.getElem?_eq_some_iff.1 hc).1 (.inr rfl)).trans hc, hn, hm, hcs, ht⟩
  · have hr := h4 i c x hi hx
    exact T.mono (fun k hk hf => ⟨hf.1, hf.2.1, Nat.lt_of_lt_of_le hf.2.2 hs⟩) (T.keep (fun k hk hf => hb k hk (.inl hf.1)) hr)
theorem OwnF.keep {w w' : World} {base : Nat} {F : Nat → Prop} {v : Value} {xs : List α} (h : OwnF T w base F v xs) (hs : w.heap.size ≤ w'.heap.size) (hb : ∀ k, k < w.heap.size → w'.heap[k]? = w.heap[k]?) : OwnF T w' base F v xs := h.move hs (fun k hk _ => hb k hk)
theorem OwnF.below {w w' : World} {base : Nat} {F : Nat → Prop} {v : Value} {xs : List α} (h : OwnF T w base F v xs) (hb : Below w.heap.size w w') : OwnF T w' base F v xs := h.keep hb.size hb.block
theorem OwnF.alloc {w : World} {base : Nat} {F : Nat → Prop} {v : Value} {xs : List α} (h : OwnF T w base F v xs) (o : Obj) : OwnF T (w.alloc o) base F v xs := h.below ((Below.refl _ _).alloc (Nat.le_refl _) o)
theorem OwnF.drewN {w : World} {base : Nat} {F : Nat → Prop} {v : Value} {xs : List α} (h : OwnF T w base F v xs) (n : Nat) : OwnF T (w.drewN n) base F v xs := h.keep (Nat.le_refl _) (fun k hk => rfl)
theorem OwnF.mono {w : World} {base base' : Nat} {F : Nat → Prop} {v : Value} {xs : List α} (h : OwnF T w base F v xs) (hb : base' ≤ base) : OwnF T w base' F v xs := by
  obtain ⟨css, h1, h2⟩ := h
  refine ⟨css, ⟨h1.1, ?_⟩, h2⟩
  rcases h1.2 with h0 | ⟨g, cap, cur, rfl, hb', hc⟩
  · exact .inl h0
  · exact .inr ⟨g, cap, cur, rfl, Nat.le_trans hb hb', hc⟩
/-- a store elsewhere -/
theorem OwnF.far {w : World} {base : Nat} {F : Nat → Prop} {v : Value} {xs : List α} (h : OwnF T w base F v xs) {p : Addr} (h1 : ∀ k, F k → k ≠ p.block) (h2 : v.ownBlock ≠ some p.block) (u : Value) : OwnF T (w.setCell p u) base F v xs :=
  h.move (by simp) (fun k hk hf => Below.heap_setCell w p u k (by rcases hf with hf | hf; exact h1 k hf; rintro rfl; exact h2 hf))
theorem OwnF.ne {w : World} {base : Nat} {F : Nat → Prop} {v : Value} {xs : List α} (h : OwnF T w base F v xs) {g t : Nat} {cs : Array Value} (hg : w.heap[g]? = some (.cells cs t (0, 0))) (ht : e ≠ t) : v.ownBlock ≠ some g := by
  obtain ⟨css, h1, _⟩ := h
  rcases h1.2 with ⟨rfl, _⟩ | ⟨g', cap, cur, rfl, _, hc, _⟩
  · simp [Value.ownBlock]
  · intro hk
    have : g' = g := by simpa [Value.ownBlock] using hk
    subst this
    rw [hg] at hc
    injection hc with hc
    injection hc with _ hc
    exact ht hc.symm

theorem OwnF.app {w w' : World} {base : Nat} {F : Nat → Prop} {v v' : Value} {xs ys : List α} {css news : List (List Value)} (h2 : css.length = xs.length) (h3 : ∀ c ∈ css, c.length = T.n)
    (h4 : ∀ (i : Nat) (c : List Value) (x : α), css[i]? = some c → xs[i]? = some x → T.R w (fun k => F k ∧ some k ≠ v.ownBlock ∧ k < w.heap.size) c x)
    (n2 : news.length = ys.length) (n3 : ∀ c ∈ news, c.length = T.n) (n4 : ∀ (i : Nat) (c : List Value) (x : α), news[i]? = some c → ys[i]? = some x → T.R w (fun k => F k ∧ some k ≠ v.ownBlock ∧ k < w.heap.size) c x)
    (hown : w'.ownsRow base e T.n v' (xs.length + ys.length) (css.flatten ++ news.flatten)) (hg : w.grownBy w' v.ownBlock) (hat : v'.ownBlock = v.ownBlock ∨ v'.ownBlock = some w.heap.size) : OwnF T w' base F v' (xs ++ ys) := by
  have turn : ∀ {c : List Value} {x : α}, T.R w (fun k => F k ∧ some k ≠ v.ownBlock ∧ k < w.heap.size) c x → T.R w' (fun k => F k ∧ some k ≠ v'.ownBlock ∧ k < w'.heap.size) c x := fun {c x} hr =>
    T.mono (fun k hk hf => (⟨hf.1, by
      rcases hat with h | h
      · rw [h]; exact hf.2.1
      · rw [h]; intro e; injection e with e; have := hf.2.2; omega, Nat.lt_of_lt_of_le hf.2.2 hg.size⟩ : F k ∧ some k ≠ v'.ownBlock ∧ k < w'.heap.size)) (T.keep (fun k hk hf => hg.block k hk hf.2.1) hr)
  refine ⟨css ++ news, by rw [List.flatten_append, List.length_append]; exact hown, by simp [h2, n2], ?_, ?_⟩
  · intro c hc
    rcases List.mem_append.1 hc with h | h
    · exact h3 c h
    · exact n3 c h
  · intro i c x hi hx
    by_cases hlt : i < css.length
    · rw [List.getElem?_append_left hlt] at hi
      rw [List.getElem?_append_left (by omega)] at hx
      exact turn (h4 i c x hi hx)
    · rw [List.getElem?_append_right (by omega)] at hi
      rw [List.getElem?_append_right (by omega)] at hx
      rw [h2] at hi
      exact turn (n4 _ c x hi hx)

variable {ops : Array Oper} {rest : List Oper} {o : Oper} {a : Act} {Q : Exit → Act → World → Prop} {w : World}
/-- append at the operation -/
theorem wp_appF (hgd : o.guard = none) (s x : Operand) (t : TypeId) (ho : o.op = .call { callee := .builtin .append, args := #[s, x], argTypes := #[t, t] })
    (i : TypeInfo) (z : Value) (bytes : Nat) (ht : P.underlying t = some (.slice e)) (hi : P.info? e = some i) (hz : i.zero = some z) (hsize : i.size = T.n) (hby : i.bytes = bytes) (hzs : z.cells.size = T.n) (hsz : 0 < T.n)
    (h1c : ∀ (w : World) (F : Nat → Prop) (c : List Value) (x : α), T.R w F c x → ∀ u ∈ c, u.oneCell' = true)
    (base : Nat) (F : Nat → Prop) (v : Value) (xs : List α) (hs : a.eval s = v) (hown : OwnF T w base F v xs) (ad : Addr) (c : Nat) (ys : List α) (hx : a.eval x = .slice (some ad) ys.length c)
    (hys : ∀ i x, ys[i]? = some x → ∃ ces, (∀ j u, ces[j]? = some u → w.cell? ((ad.add (i * T.n)).add j) = some u) ∧ T.R w (fun k => F k ∧ some k ≠ v.ownBlock ∧ k < w.heap.size) ces x) (h63 : xs.length + ys.length ≤ maxLen) (hbytes : (xs.length + ys.length) * bytes ≤ 140737488355328) (hbase : base ≤ w.heap.size)
    (h : ∀ v' w', OwnF T w' base F v' (xs ++ ys) → w.grownBy w' v.ownBlock → (v' = .slice none 0 0 ↔ v = .slice none 0 0 ∧ ys.length = 0) → (v'.ownBlock = v.ownBlock ∨ v'.ownBlock = some w.heap.size) → wpList P ops Q rest (a.put o.dst v') w') :
    wpList P ops Q (o :: rest) a w := by
  obtain ⟨css, h1, h2, h3, h4⟩ := hown
  have hrow : ∃ news : List (List Value), news.length = ys.length ∧ (∀ (i : Nat) (c : List Value) (x : α), news[i]? = some c → ys[i]? = some x → T.R w (fun k => F k ∧ some k ≠ v.ownBlock ∧ k < w.heap.size) c x) ∧ (∀ c ∈ news, c.length = T.n) ∧
      ∀ (j : Nat) (u : Value), news.flatten[j]? = some u → w.cell? (ad.add j) = some u := by
    clear h hx h63 hbytes h1 h2 h3 h4
    revert ad
    induction ys with
    | nil => intro ad _; exact ⟨[], rfl, by simp, by simp, by simp⟩
    | cons x r ih =>
      intro ad hys
      obtain ⟨c0, hc, hr⟩ := hys 0 x rfl
      obtain ⟨css, h1, h2, h3, h4⟩ := ih (ad.add T.n) (fun i y hy => by
        obtain ⟨ces, hc, hr⟩ := hys (i + 1) y (by simpa using hy)
        refine ⟨ces, fun j u hu => ?_, hr⟩
        have := hc j u hu
        rw [← this, Go.Addr.add_add, Go.Addr.add_add, Go.Addr.add_add]
        congr 2
        rw [Nat.add_mul]
        omega)
      have hl0 := T.len hr
      refine ⟨c0 :: css, by simp [h1], ?_, ?_, ?_⟩
      · intro i c y hi hy
        cases i with
        | zero => simp at hi hy; subst hi; subst hy; exact hr
        | succ i => exact h2 i c y (by simpa using hi) (by simpa using hy)
      · intro c hc'
        rcases List.mem_cons.1 hc' with rfl | h
        · exact hl0
        · exact h3 c h
      · intro j u hj
        rw [List.flatten_cons] at hj
        by_cases hlt' : j < c0.length
        · rw [List.getElem?_append_left hlt'] at hj
          have := hc j u hj
          rwa [Nat.zero_mul, Go.Addr.add_add, Nat.zero_add] at this
        · rw [List.getElem?_append_right (by omega)] at hj
          have := h4 _ u hj
          rw [Go.Addr.add_add] at this
          rw [← this]
          congr 2
          omega
  obtain ⟨news, n2, n4, n3, n5⟩ := hrow
  refine wpList_append_own_at w hgd s x t ho base e i z T.n bytes ht hi hz hsize hby hzs hsz v xs.length css.flatten hs h1 ad ys.length c news.flatten hx (by rw [flat_len n3, n2]) n5 ?_ h63 hbytes hbase ?_
  · intro u hu
    obtain ⟨c', hc', hu'⟩ := List.mem_flatten.1 hu
    obtain ⟨k, hk, rfl⟩ := List.mem_iff_getElem.1 hc'
    exact h1c w _ _ _ (n4 k _ _ (List.getElem?_eq_getElem hk) (List.getElem?_eq_getElem (by omega))) u hu'
  · intro v' w' hr hg hnil hat
    exact h v' w' (OwnF.app h2 h3 h4 n2 n3 n4 hr hg hat) hg hnil hat
end
end Go.Proofs.YtacemlbfifhllaaGreat
