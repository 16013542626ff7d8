/- Lists that a call lays down in a block of its own: what they hold, that they are kept, what append makes of them. -/
import Derived.Test.YtacemlbfifhllaaGreatX02GatesPlay
import Derived.Maps.AppendAt
import Derived.DataElems
set_option linter.unusedVariables false
set_option linter.unusedSimpArgs false
namespace Go.Proofs.YtacemlbfifhllaaGreat
open Go.RowKit

section
variable {P : Program} {e : TypeId} {α : Type} {T : Ty P e α}

/-- the cells of a list that lies in memory, element by element -/
theorem Sl.rows {w : World} {F : Nat → Prop} : ∀ {xs : List α} {ad : Addr}, Sl T w F (some ad) xs →
    ∃ css : List (List Value), css.length = xs.length ∧ (∀ (i : Nat) (c : List Value) (x : α), css[i]? = some c → xs[i]? = some x → T.R w F c x) ∧ (∀ c ∈ css, c.length = T.n) ∧
      ∀ (j : Nat) (u : Value), css.flatten[j]? = some u → w.cell? (ad.add j) = some u := by
  intro xs
  induction xs with
  | nil => intro ad _; exact ⟨[], rfl, by simp, by simp, by simp⟩
  | cons x r ih =>
    intro ad h
    obtain ⟨ad', c0, ha, hf, hlt, hc, hr⟩ := h 0 x rfl
    injection ha with ha
    subst ha
    have htail : Sl T w F (some (ad.add T.n)) r := by
      intro i y hy
      obtain ⟨ad', ces, ha, hf, hlt, hc, hr⟩ := h (i + 1) y (by simpa using hy)
      injection ha with ha
      subst ha
      refine ⟨ad.add T.n, ces, rfl, by rw [add_block]; exact hf, by rw [add_block]; exact hlt, fun j v hv => ?_, hr⟩
      have := hc j v hv
      rw [← this, Go.Addr.add_add, Go.Addr.add_add, Go.Addr.add_add]
      congr 2
      rw [Nat.add_mul]
      omega
    obtain ⟨css, h1, h2, h3, h4⟩ := ih htail
    have hl0 := T.len hr
    refine ⟨c0 :: css, by simp [h1], ?_, ?_, ?_⟩
    · intro i c y hi hy
      cases i with
      | zero => simp at hi hy; subst hi; subst hy; exact hr
      | succ i => exact h2 i c y (by simpa using hi) (by simpa using hy)
    · intro c hc'
      rcases List.mem_cons.1 hc' with rfl | h
      · exact hl0
      · exact h3 c h
    · intro j u hj
      rw [List.flatten_cons] at hj
      by_cases hlt' : j < c0.length
      · rw [List.getElem?_append_left hlt'] at hj
        have := hc j u hj
        rwa [Nat.zero_mul, Go.Addr.add_add, Nat.zero_add] at this
      · rw [List.getElem?_append_right (by omega)] at hj
        have := h4 _ u hj
        rw [Go.Addr.add_add] at this
        rw [← this]
        congr 2
        omega

theorem flat_len {n : Nat} : ∀ {css : List (List Value)}, (∀ c ∈ css, c.length = n) → css.flatten.length = css.length * n
  | [], _ => by simp
  | c :: r, h => by
    rw [List.flatten_cons, List.length_append, flat_len (fun c hc => h c (List.mem_cons_of_mem _ hc)), h c (List.mem_cons_self ..), List.length_cons, Nat.add_mul]
    omega
theorem flat_at {n : Nat} : ∀ {css : List (List Value)}, (∀ c ∈ css, c.length = n) → ∀ (i j : Nat) (c : List Value) (v : Value), css[i]? = some c → c[j]? = some v → css.flatten[i * n + j]? = some v
  | [], _, i, j, c, v, hi, _ => by simp at hi
  | d :: r, h, i, j, c, v, hi, hj => by
    have hd := h d (List.mem_cons_self ..)
    rw [List.flatten_cons]
    cases i with
    | zero =>
      simp at hi
      subst hi
      have : j < d.length := (List.getElem?_eq_some_iff.1 hj).1
      rw [Nat.zero_mul, Nat.zero_add, List.getElem?_append_left this]
      exact hj
    | succ i =>
      rw [List.getElem?_append_right (by rw [hd, Nat.add_mul]; omega), hd]
      have := flat_at (fun c hc => h c (List.mem_cons_of_mem _ hc)) i j c v (by simpa using hi) hj
      rw [← this]
      congr 1
      rw [Nat.add_mul]
      omega

variable (T) in
/-- v is a list of the call's own: in a block from base on, that nothing of its elements lies in -/
def OwnL (w : World) (base : Nat) (v : Value) (xs : List α) : Prop :=
  ∃ css : List (List Value), w.ownsRow base e T.n v xs.length css.flatten ∧ css.length = xs.length ∧ (∀ c ∈ css, c.length = T.n) ∧
    ∀ (i : Nat) (c : List Value) (x : α), css[i]? = some c → xs[i]? = some x → T.R w (fun k => some k ≠ v.ownBlock ∧ k < w.heap.size) c x

theorem OwnL.nil (w : World) (base : Nat) : OwnL T w base (.slice none 0 0) [] := ⟨[], ⟨by simp, .inl ⟨rfl, rfl⟩⟩, rfl, by simp, by simp⟩

theorem OwnL.lt {w : World} {base : Nat} {v : Value} {xs : List α} (h : OwnL T w base v xs) : ∀ k, v.ownBlock = some k → base ≤ k ∧ k < w.heap.size := by
  obtain ⟨css, h1, _⟩ := h
  intro k hk
  rcases h1.2 with ⟨rfl, _⟩ | ⟨g, cap, cur, rfl, hb, hc, _⟩
  · cases hk
  · simp [Value.ownBlock] at hk
    subst hk
    exact ⟨hb, (Array.getElem?_eq_some_iff.1 hc).1⟩

theorem OwnL.slice {w : World} {base : Nat} {v : Value} {xs : List α} (h : OwnL T w base v xs) : ∃ a cap, v = .slice a xs.length cap ∧ xs.length ≤ cap ∧ cap ≤ maxLen ∧ Sl T w (fun _ => True) a xs := by
  obtain ⟨css, h1, h2, h3, h4⟩ := h
  rcases h1.2 with ⟨rfl, h0⟩ | ⟨g, cap, cur, rfl, hb, hc, hn, hm, hcs, ht⟩
  · rw [h0]
    refine ⟨none, 0, rfl, Nat.le_refl _, Nat.zero_le _, fun i x hi => ?_⟩
    have := (List.getElem?_eq_some_iff.1 hi).1
    omega
  · refine ⟨_, cap, rfl, hn, hm, fun i x hi => ?_⟩
    have hil := (List.getElem?_eq_some_iff.1 hi).1
    have hci : css[i]? = some css[i] := List.getElem?_eq_getElem (by omega)
    refine ⟨_, css[i], rfl, trivial, (Array.getElem?_eq_some_iff.1 hc).1, fun j u hu => ?_, T.mono (fun _ _ _ => trivial) (h4 i _ x hci hi)⟩
    have hfl := flat_at h3 i j _ u hci hu
    rw [Go.Addr.add_add]
    have hlt := (List.getElem?_eq_some_iff.1 hfl).1
    rw [← ht] at hfl
    rw [List.getElem?_take] at hfl
    split at hfl
    · have : (⟨g, 0, none⟩ : Addr).add (i * T.n + j) = ⟨g, i * T.n + j, none⟩ := by unfold Addr.add; split <;> simp_all
      rw [this, cell_of_row w g _ cur e (0, 0) hc]
      simpa using hfl
    · cases hfl

/-- where its elements hold nothing of memory -/
theorem OwnL.slice_free {w : World} {base : Nat} {v : Value} {xs : List α} (hfree : ∀ (w : World) (F G : Nat → Prop) (c : List Value) (x : α), T.R w F c x → T.R w G c x) (h : OwnL T w base v xs) :
    ∃ a cap, v = .slice a xs.length cap ∧ xs.length ≤ cap ∧ cap ≤ maxLen ∧ Sl T w (fun k => base ≤ k ∧ k < w.heap.size) a xs := by
  have hlt := h.lt
  obtain ⟨a, cap, rfl, h1, h2, h3⟩ := h.slice
  refine ⟨a, cap, rfl, h1, h2, fun i x hi => ?_⟩
  obtain ⟨ad, ces, rfl, _, hl, hc, hr⟩ := h3 i x hi
  exact ⟨ad, ces, rfl, hlt _ rfl, hl, hc, hfree _ _ _ _ _ hr⟩

theorem OwnL.keep {w w' : World} {base : Nat} {v : Value} {xs : List α} (h : OwnL T w base v xs) (hs : w.heap.size ≤ w'.heap.size) (hb : ∀ k, k < w.heap.size → w'.heap[k]? = w.heap[k]?) : OwnL T w' base v xs := by
  obtain ⟨css, h1, h2, h3, h4⟩ := h
  refine ⟨css, ⟨h1.1, ?_⟩, h2, h3, fun i c x hi hx => ?_⟩
  · rcases h1.2 with ⟨rfl, h0⟩ | ⟨g, cap, cur, rfl, hb', hc, hn, hm, hcs, ht⟩
    · exact .inl ⟨rfl, h0⟩
    · exact .inr ⟨g, cap, cur, rfl, hb', (hb g (Array.getElem?_eq_some_iff.1 hc).1).trans hc, hn, hm, hcs, ht⟩
  · have hr := h4 i c x hi hx
    exact T.mono (fun k hk hf => ⟨hf.1, Nat.lt_of_lt_of_le hf.2 hs⟩) (T.keep (fun k hk _ => hb k hk) hr)
theorem OwnL.below {w w' : World} {base : Nat} {v : Value} {xs : List α} (h : OwnL T w base v xs) (hb : Below w.heap.size w w') : OwnL T w' base v xs := h.keep hb.size hb.block
theorem OwnL.alloc {w : World} {base : Nat} {v : Value} {xs : List α} (h : OwnL T w base v xs) (o : Obj) : OwnL T (w.alloc o) base v xs := h.below ((Below.refl _ _).alloc (Nat.le_refl _) o)
theorem OwnL.mono {w : World} {base base' : Nat} {v : Value} {xs : List α} (h : OwnL T w base v xs) (hb : base' ≤ base) : OwnL T w base' v xs := by
  obtain ⟨css, h1, h2⟩ := h
  refine ⟨css, ⟨h1.1, ?_⟩, h2⟩
  rcases h1.2 with h0 | ⟨g, cap, cur, rfl, hb', hc⟩
  · exact .inl h0
  · exact .inr ⟨g, cap, cur, rfl, Nat.le_trans hb hb', hc⟩

/-- what append makes of it: the plain law -/
theorem OwnL.app {w w' : World} {base : Nat} {v v' : Value} {xs ys : List α} {css news : List (List Value)} (h2 : css.length = xs.length) (h3 : ∀ c ∈ css, c.length = T.n)
    (h4 : ∀ (i : Nat) (c : List Value) (x : α), css[i]? = some c → xs[i]? = some x → T.R w (fun k => some k ≠ v.ownBlock ∧ k < w.heap.size) c x)
    (n2 : news.length = ys.length) (n3 : ∀ c ∈ news, c.length = T.n) (n4 : ∀ (i : Nat) (c : List Value) (x : α), news[i]? = some c → ys[i]? = some x → T.R w (fun k => some k ≠ v.ownBlock ∧ k < w.heap.size) c x)
    (hown : w'.ownsRow base e T.n v' (xs.length + ys.length) (css.flatten ++ news.flatten)) (hg : w.grownBy w' v.ownBlock) (hat : v'.ownBlock = v.ownBlock ∨ v'.ownBlock = some w.heap.size) : OwnL T w' base v' (xs ++ ys) := by
  have turn : ∀ {c : List Value} {x : α}, T.R w (fun k => some k ≠ v.ownBlock ∧ k < w.heap.size) c x → T.R w' (fun k => some k ≠ v'.ownBlock ∧ k < w'.heap.size) c x := fun {c x} hr =>
    T.mono (fun k hk hf => (⟨by
      rcases hat with h | h
      · rw [h]; exact hf.1
      · rw [h]; intro e; injection e with e; have := hf.2; omega, Nat.lt_of_lt_of_le hf.2 hg.size⟩ : some k ≠ v'.ownBlock ∧ k < w'.heap.size)) (T.keep (fun k hk hf => hg.block k hk hf.1) hr)
  refine ⟨css ++ news, by rw [List.flatten_append, List.length_append]; exact hown, by simp [h2, n2], ?_, ?_⟩
  · intro c hc
    rcases List.mem_append.1 hc with h | h
    · exact h3 c h
    · exact n3 c h
  · intro i c x hi hx
    by_cases hlt : i < css.length
    · rw [List.getElem?_append_left hlt] at hi
      rw [List.getElem?_append_left (by omega)] at hx
      exact turn (h4 i c x hi hx)
    · rw [List.getElem?_append_right (by omega)] at hi
      rw [List.getElem?_append_right (by omega)] at hx
      rw [h2] at hi
      exact turn (n4 _ c x hi hx)

variable {ops : Array Oper} {rest : List Oper} {o : Oper} {a : Act} {Q : Exit → Act → World → Prop} {w : World}
/-- append at the operation: a list of the call's own grows by what another slice holds -/
theorem wp_app (hgd : o.guard = none) (s x : Operand) (t : TypeId) (ho : o.op = .call { callee := .builtin .append, args := #[s, x], argTypes := #[t, t] })
    (i : TypeInfo) (z : Value) (bytes : Nat) (ht : P.underlying t = some (.slice e)) (hi : P.info? e = some i) (hz : i.zero = some z) (hsize : i.size = T.n) (hby : i.bytes = bytes) (hzs : z.cells.size = T.n) (hsz : 0 < T.n)
    (h1c : ∀ (w : World) (F : Nat → Prop) (c : List Value) (x : α), T.R w F c x → ∀ u ∈ c, u.oneCell' = true)
    (base : Nat) (v : Value) (xs : List α) (hs : a.eval s = v) (hown : OwnL T w base v xs) (ad : Addr) (c : Nat) (ys : List α) (hx : a.eval x = .slice (some ad) ys.length c)
    (hys : Sl T w (fun k => some k ≠ v.ownBlock ∧ k < w.heap.size) (some ad) ys) (h63 : xs.length + ys.length ≤ maxLen) (hbytes : (xs.length + ys.length) * bytes ≤ 140737488355328) (hbase : base ≤ w.heap.size)
    (h : ∀ v' w', OwnL T w' base v' (xs ++ ys) → w.grownBy w' v.ownBlock → (v' = .slice none 0 0 ↔ v = .slice none 0 0 ∧ ys.length = 0) → (v'.ownBlock = v.ownBlock ∨ v'.ownBlock = some w.heap.size) → wpList P ops Q rest (a.put o.dst v') w') :
    wpList P ops Q (o :: rest) a w := by
  obtain ⟨css, h1, h2, h3, h4⟩ := hown
  obtain ⟨news, n2, n4, n3, n5⟩ := hys.rows
  refine wpList_append_own_at w hgd s x t ho base e i z T.n bytes ht hi hz hsize hby hzs hsz v xs.length css.flatten hs h1 ad ys.length c news.flatten hx (by rw [flat_len n3, n2]) n5 ?_ h63 hbytes hbase ?_
  · intro u hu
    obtain ⟨c', hc', hu'⟩ := List.mem_flatten.1 hu
    obtain ⟨k, hk, rfl⟩ := List.mem_iff_getElem.1 hc'
    exact h1c w _ _ _ (n4 k _ _ (List.getElem?_eq_getElem hk) (List.getElem?_eq_getElem (by omega))) u hu'
  · intro v' w' hr hg hnil hat
    exact h v' w' (OwnL.app h2 h3 h4 n2 n3 n4 hr hg hat) hg hnil hat

theorem OwnL.grown {w w' : World} {base : Nat} {v : Value} {xs : List α} {row : Option Nat} (h : OwnL T w base v xs) (hg : w.grownBy w' row) (hne : ∀ k, row = some k → w.heap.size ≤ k) : OwnL T w' base v xs :=
  h.keep hg.size (fun k hk => hg.block k hk (fun e => by have := hne k e.symm; omega))
end
end Go.Proofs.YtacemlbfifhllaaGreat
