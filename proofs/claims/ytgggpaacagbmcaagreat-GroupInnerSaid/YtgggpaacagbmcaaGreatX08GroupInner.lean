/- Lists of a call's own whose elements lie in blocks of a given kind: kept, grown, cut to plain lists. -/
import Derived.Test.YtgggpaacagbmcaaGreatX04GroupInner
import Derived.Test.YtgggpaacagbmcaaGreatX07GroupInner
import Derived.Deep.RegionWith
set_option linter.unusedVariables false
set_option linter.unusedSimpArgs false
namespace Go.Proofs.YtgggpaacagbmcaaGreat
open Go.RowKit

section
variable {P : Program} {e : TypeId} {α : Type} {T : Ty P e α}

variable (T) in
/-- v is a list of the call's own: in a block from base on; its elements lie in blocks of F, and not in its own. -/
def OwnF (w : World) (base : Nat) (F : Nat → Prop) (v : Value) (xs : List α) : Prop :=
  ∃ css : List (List Value), w.ownsRow base e T.n v xs.length css.flatten ∧ css.length = xs.length ∧ (∀ c ∈ css, c.length = T.n) ∧
    ∀ (i : Nat) (c : List Value) (x : α), css[i]? = some c → xs[i]? = some x → T.R w (fun k => F k ∧ some k ≠ v.ownBlock ∧ k < w.heap.size) c x

theorem OwnF.nil (w : World) (base : Nat) (F : Nat → Prop) : OwnF T w base F (.slice none 0 0) [] := ⟨[], ⟨by simp, .inl ⟨rfl, rfl⟩⟩, rfl, by simp, by simp⟩

theorem OwnF.weak {w : World} {base : Nat} {F G : Nat → Prop} {v : Value} {xs : List α} (h : OwnF T w base F v xs) (hFG : ∀ k, F k → some k ≠ v.ownBlock → k < w.heap.size → G k) : OwnF T w base G v xs := by
  obtain ⟨css, h1, h2, h3, h4⟩ := h
  exact ⟨css, h1, h2, h3, fun i c x hi hx => T.mono (fun k _ hk => ⟨hFG k hk.1 hk.2.1 hk.2.2, hk.2⟩) (h4 i c x hi hx)⟩
theorem OwnF.own {w : World} {base : Nat} {F : Nat → Prop} {v : Value} {xs : List α} (h : OwnF T w base F v xs) : OwnL T w base v xs := by
  obtain ⟨css, h1, h2, h3, h4⟩ := h
  exact ⟨css, h1, h2, h3, fun i c x hi hx => T.mono (fun k _ hk => hk.2) (h4 i c x hi hx)⟩
theorem OwnL.ownF {w : World} {base : Nat} {v : Value} {xs : List α} (h : OwnL T w base v xs) : OwnF T w base (fun _ => True) v xs := by
  obtain ⟨css, h1, h2, h3, h4⟩ := h
  exact ⟨css, h1, h2, h3, fun i c x hi hx => T.mono (fun k _ hk => ⟨trivial, hk⟩) (h4 i c x hi hx)⟩
theorem OwnF.lt {w : World} {base : Nat} {F : Nat → Prop} {v : Value} {xs : List α} (h : OwnF T w base F v xs) : ∀ k, v.ownBlock = some k → base ≤ k ∧ k < w.heap.size := h.own.lt

theorem OwnF.slice {w : World} {base : Nat} {F : Nat → Prop} {v : Value} {xs : List α} (h : OwnF T w base F v xs) : ∃ a cap, v = .slice a xs.length cap ∧ xs.length ≤ cap ∧ cap ≤ maxLen ∧ Sl T w (fun k => (F k ∧ k < w.heap.size) ∨ v.ownBlock = some k) a xs := by
  obtain ⟨css, h1, h2, h3, h4⟩ := h
  rcases h1.2 with ⟨rfl, h0⟩ | ⟨g, cap, cur, rfl, hb, hc, hn, hm, hcs, ht⟩
  · rw [h0]
    refine ⟨none, 0, rfl, Nat.le_refl _, Nat.zero_le _, fun i x hi => ?_⟩
    have := (List.getElem?_eq_some_iff.1 hi).1
    omega
  · refine ⟨_, cap, rfl, hn, hm, fun i x hi => ?_⟩
    have hil := (List.getElem?_eq_some_iff.1 hi).1
    have hci : css[i]? = some css[i] := List.getElem?_eq_getElem (by omega)
    refine ⟨_, css[i], rfl, .inr rfl, (Array.getElem?_eq_some_iff.1 hc).1, fun j u hu => ?_, T.mono (fun _ _ hk => .inl ⟨hk.1, hk.2.2⟩) (h4 i _ x hci hi)⟩
    have hfl := flat_at h3 i j _ u hci hu
    rw [Go.Addr.add_add]
    have hlt := (List.getElem?_eq_some_iff.1 hfl).1
    rw [← ht] at hfl
    rw [List.getElem?_take] at hfl
    split at hfl
    · have : (⟨g, 0, none⟩ : Addr).add (i * T.n + j) = ⟨g, i * T.n + j, none⟩ := by unfold Addr.add; split <;> simp_all
      rw [this, cell_of_row w g _ cur e (0, 0) hc]
      simpa using hfl
    · cases hfl

theorem OwnF.move {w w' : World} {base : Nat} {F : Nat → Prop} {v : Value} {xs : List α} (h : OwnF T w base F v xs) (hs : w.heap.size ≤ w'.heap.size) (hb : ∀ k, k < w.heap.size → (F k ∨ v.ownBlock = some k) → w'.heap[k]? = w.heap[k]?) : OwnF T w' base F v xs := by
  have hlt := h.lt
  obtain ⟨css, h1, h2, h3, h4⟩ := h
  refine ⟨css, ⟨h1.1, ?_⟩, h2, h3, fun i c x hi hx => ?_⟩
  · rcases h1.2 with ⟨rfl, h0⟩ | ⟨g, cap, cur, rfl, hb', hc, hn, hm, hcs, ht⟩
    · exact .inl ⟨rfl, h0⟩
    · exact .inr ⟨g, cap, cur, rfl, hb', (hb g (Array.getElem?_eq_some_iff.1 hc).1 (.inr rfl)).trans hc, hn, hm, hcs, ht⟩
  · have hr := h4 i c x hi hx
    exact T.mono (fun k hk hf => ⟨hf.1, hf.2.1, Nat.lt_of_lt_of_le hf.2.2 hs⟩) (T.keep (fun k hk hf => hb k hk (.inl hf.1)) hr)
theorem OwnF.keep {w w' : World} {base : Nat} {F : Nat → Prop} {v : Value} {xs : List α} (h : OwnF T w base F v xs) (hs : w.heap.size ≤ w'.heap.size) (hb : ∀ k, k < w.heap.size → w'.heap[k]? = w.heap[k]?) : OwnF T w' base F v xs := h.move hs (fun k hk _ => hb k hk)
theorem OwnF.below {w w' : World} {base : Nat} {F : Nat → Prop} {v : Value} {xs : List α} (h : OwnF T w base F v xs) (hb : Below w.heap.size w w') : OwnF T w' base F v xs := h.keep hb.size hb.block
theorem OwnF.alloc {w : World} {base : Nat} {F : Nat → Prop} {v : Value} {xs : List α} (h : OwnF T w base F v xs) (o : Obj) : OwnF T (w.alloc o) base F v xs := h.below ((Below.refl _ _).alloc (Nat.le_refl _) o)
theorem OwnF.drewN {w : World} {base : Nat} {F : Nat → Prop} {v : Value} {xs : List α} (h : OwnF T w base F v xs) (n : Nat) : OwnF T (w.drewN n) base F v xs := h.keep (Nat.le_refl _) (fun k hk => rfl)
theorem OwnF.mono {w : World} {base base' : Nat} {F : Nat → Prop} {v : Value} {xs : List α} (h : OwnF T w base F v xs) (hb : base' ≤ base) : OwnF T w base' F v xs := by
  obtain ⟨css, h1, h2⟩ := h
  refine ⟨css, ⟨h1.1, ?_⟩, h2⟩
  rcases h1.2 with h0 | ⟨g, cap, cur, rfl, hb', hc⟩
  · exact .inl h0
  · exact .inr ⟨g, cap, cur, rfl, Nat.le_trans hb hb', hc⟩
/-- a store elsewhere -/
theorem OwnF.far {w : World} {base : Nat} {F : Nat → Prop} {v : Value} {xs : List α} (h : OwnF T w base F v xs) {p : Addr} (h1 : ∀ k, F k → k ≠ p.block) (h2 : v.ownBlock ≠ some p.block) (u : Value) : OwnF T (w.setCell p u) base F v xs :=
  h.move (by simp) (fun k hk hf => Below.heap_setCell w p u k (by rcases hf with hf | hf; exact h1 k hf; rintro rfl; exact h2 hf))
theorem OwnF.ne {w : World} {base : Nat} {F : Nat → Prop} {v : Value} {xs : List α} (h : OwnF T w base F v xs) {g t : Nat} {cs : Array Value} (hg : w.heap[g]? = some (.cells cs t (0, 0))) (ht : e ≠ t) : v.ownBlock ≠ some g := by
  obtain ⟨css, h1, _⟩ := h
  rcases h1.2 with ⟨rfl, _⟩ | ⟨g', cap, cur, rfl, _, hc, _⟩
  · simp [Value.ownBlock]
  · intro hk
    have : g' = g := by simpa [Value.ownBlock] using hk
    subst this
    rw [hg] at hc
    injection hc with hc
    injection hc with _ hc
    exact ht hc.symm

theorem OwnF.app {w w' : World} {base : Nat} {F : Nat → Prop} {v v' : Value} {xs ys : List α} {css news : List (List Value)} (h2 : css.length = xs.length) (h3 : ∀ c ∈ css, c.length = T.n)
    (h4 : ∀ (i : Nat) (c : List Value) (x : α), css[i]? = some c → xs[i]? = some x → T.R w (fun k => F k ∧ some k ≠ v.ownBlock ∧ k < w.heap.size) c x)
    (n2 : news.length = ys.length) (n3 : ∀ c ∈ news, c.length = T.n) (n4 : ∀ (i : Nat) (c : List Value) (x : α), news[i]? = some c → ys[i]? = some x → T.R w (fun k => F k ∧ some k ≠ v.ownBlock ∧ k < w.heap.size) c x)
    (hown : w'.ownsRow base e T.n v' (xs.length + ys.length) (css.flatten ++ news.flatten)) (hg : w.grownBy w' v.ownBlock) (hat : v'.ownBlock = v.ownBlock ∨ v'.ownBlock = some w.heap.size) : OwnF T w' base F v' (xs ++ ys) := by
  have turn : ∀ {c : List Value} {x : α}, T.R w (fun k => F k ∧ some k ≠ v.ownBlock ∧ k < w.heap.size) c x → T.R w' (fun k => F k ∧ some k ≠ v'.ownBlock ∧ k < w'.heap.size) c x := fun {c x} hr =>
    T.mono (fun k hk hf => (⟨hf.1, by
      rcases hat with h | h
      · rw [h]; exact hf.2.1
      · rw [h]; intro e; injection e with e; have := hf.2.2; omega, Nat.lt_of_lt_of_le hf.2.2 hg.size⟩ : F k ∧ some k ≠ v'.ownBlock ∧ k < w'.heap.size)) (T.keep (fun k hk hf => hg.block k hk hf.2.1) hr)
  refine ⟨css ++ news, by rw [List.flatten_append, List.length_append]; exact hown, by simp [h2, n2], ?_, ?_⟩
  · intro c hc
    rcases List.mem_append.1 hc with h | h
    · exact h3 c h
    · exact n3 c h
  · intro i c x hi hx
    by_cases hlt : i < css.length
    · rw [List.getElem?_append_left hlt] at hi
      rw [List.getElem?_append_left (by omega)] at hx
      exact turn (h4 i c x hi hx)
    · rw [List.getElem?_append_right (by omega)] at hi
      rw [List.getElem?_append_right (by omega)] at hx
      rw [h2] at hi
      exact turn (n4 _ c x hi hx)

variable {ops : Array Oper} {rest : List Oper} {o : Oper} {a : Act} {Q : Exit → Act → World → Prop} {w : World}
/-- append at the operation -/
theorem wp_appF (hgd : o.guard = none) (s x : Operand) (t : TypeId) (ho : o.op = .call { callee := .builtin .append, args := #[s, x], argTypes := #[t, t] })
    (i : TypeInfo) (z : Value) (bytes : Nat) (ht : P.underlying t = some (.slice e)) (hi : P.info? e = some i) (hz : i.zero = some z) (hsize : i.size = T.n) (hby : i.bytes = bytes) (hzs : z.cells.size = T.n) (hsz : 0 < T.n)
    (h1c : ∀ (w : World) (F : Nat → Prop) (c : List Value) (x : α), T.R w F c x → ∀ u ∈ c, u.oneCell' = true)
    (base : Nat) (F : Nat → Prop) (v : Value) (xs : List α) (hs : a.eval s = v) (hown : OwnF T w base F v xs) (ad : Addr) (c : Nat) (ys : List α) (hx : a.eval x = .slice (some ad) ys.length c)
    (hys : ∀ i x, ys[i]? = some x → ∃ ces, (∀ j u, ces[j]? = some u → w.cell? ((ad.add (i * T.n)).add j) = some u) ∧ T.R w (fun k => F k ∧ some k ≠ v.ownBlock ∧ k < w.heap.size) ces x) (h63 : xs.length + ys.length ≤ maxLen) (hbytes : (xs.length + ys.length) * bytes ≤ 140737488355328) (hbase : base ≤ w.heap.size)
    (h : ∀ v' w', OwnF T w' base F v' (xs ++ ys) → w.grownBy w' v.ownBlock → (v' = .slice none 0 0 ↔ v = .slice none 0 0 ∧ ys.length = 0) → (v'.ownBlock = v.ownBlock ∨ v'.ownBlock = some w.heap.size) → wpList P ops Q rest (a.put o.dst v') w') :
    wpList P ops Q (o :: rest) a w := by
  obtain ⟨css, h1, h2, h3, h4⟩ := hown
  have hrow : ∃ news : List (List Value), news.length = ys.length ∧ (∀ (i : Nat) (c : List Value) (x : α), news[i]? = some c → ys[i]? = some x → T.R w (fun k => F k ∧ some k ≠ v.ownBlock ∧ k < w.heap.size) c x) ∧ (∀ c ∈ news, c.length = T.n) ∧
      ∀ (j : Nat) (u : Value), news.flatten[j]? = some u → w.cell? (ad.add j) = some u := by
    clear h hx h63 hbytes h1 h2 h3 h4
    revert ad
    induction ys with
    | nil => intro ad _; exact ⟨[], rfl, by simp, by simp, by simp⟩
    | cons x r ih =>
      intro ad hys
      obtain ⟨c0, hc, hr⟩ := hys 0 x rfl
      obtain ⟨css, h1, h2, h3, h4⟩ := ih (ad.add T.n) (fun i y hy => by
        obtain ⟨ces, hc, hr⟩ := hys (i + 1) y (by simpa using hy)
        refine ⟨ces, fun j u hu => ?_, hr⟩
        have := hc j u hu
        rw [← this, Go.Addr.add_add, Go.Addr.add_add, Go.Addr.add_add]
        congr 2
        rw [Nat.add_mul]
        omega)
      have hl0 := T.len hr
      refine ⟨c0 :: css, by simp [h1], ?_, ?_, ?_⟩
      · intro i c y hi hy
        cases i with
        | zero => simp at hi hy; subst hi; subst hy; exact hr
        | succ i => exact h2 i c y (by simpa using hi) (by simpa using hy)
      · intro c hc'
        rcases List.mem_cons.1 hc' with rfl | h
        · exact hl0
        · exact h3 c h
      · intro j u hj
        rw [List.flatten_cons] at hj
        by_cases hlt' : j < c0.length
        · rw [List.getElem?_append_left hlt'] at hj
          have := hc j u hj
          rwa [Nat.zero_mul, Go.Addr.add_add, Nat.zero_add] at this
        · rw [List.getElem?_append_right (by omega)] at hj
          have := h4 _ u hj
          rw [Go.Addr.add_add] at this
          rw [← this]
          congr 2
          omega
  obtain ⟨news, n2, n4, n3, n5⟩ := hrow
  refine wpList_append_own_at w hgd s x t ho base e i z T.n bytes ht hi hz hsize hby hzs hsz v xs.length css.flatten hs h1 ad ys.length c news.flatten hx (by rw [flat_len n3, n2]) n5 ?_ h63 hbytes hbase ?_
  · intro u hu
    obtain ⟨c', hc', hu'⟩ := List.mem_flatten.1 hu
    obtain ⟨k, hk, rfl⟩ := List.mem_iff_getElem.1 hc'
    exact h1c w _ _ _ (n4 k _ _ (List.getElem?_eq_getElem hk) (List.getElem?_eq_getElem (by omega))) u hu'
  · intro v' w' hr hg hnil hat
    exact h v' w' (OwnF.app h2 h3 h4 n2 n3 n4 hr hg hat) hg hnil hat
end
end Go.Proofs.YtgggpaacagbmcaaGreat


/- book: slices.Insert behind the last one, Post behind the last one. -/
set_option linter.unusedVariables false
set_option linter.unusedSimpArgs false
namespace Go.Proofs.YtgggpaacagbmcaaGreat
open Go.RowKit Go.Maps

theorem OwnF.form {P : Program} {e : TypeId} {α : Type} {T : Ty P e α} {w : World} {base : Nat} {F : Nat → Prop} {v : Value} {xs : List α} (h : OwnF T w base F v xs) :
    (v = .slice none 0 0 ∧ xs = []) ∨ ∃ g cap, v = .slice (some ⟨g, 0, none⟩) xs.length cap ∧ xs.length ≤ cap ∧ cap ≤ maxLen := by
  obtain ⟨css, h1, _⟩ := h
  rcases h1.2 with ⟨rfl, h0⟩ | ⟨g, cap, cur, rfl, _, _, h2, h3, _⟩
  · exact .inl ⟨rfl, List.length_eq_zero_iff.1 h0⟩
  · exact .inr ⟨g, cap, rfl, h2, h3⟩

theorem cells_oneJ {w : World} {F : Nat → Prop} {b : Nat} {j : Jn} {a : Option Addr} {cap : Nat} (hb : w.heap[b]? = some (.cells #[.int .i64 j.id, .int .i64 j.en, .int .i64 j.pe, .string j.ref, .slice a j.lines.length cap, .bool j.void] 81 (0, 0)))
    (hr : tJn.R w F (jcs j a cap) j) : ∀ i x, [j][i]? = some x → ∃ ces, (∀ k u, ces[k]? = some u → w.cell? (((⟨b, 0, none⟩ : Addr).add (i * tJn.n)).add k) = some u) ∧ tJn.R w F ces x := by
  intro i x hi
  cases i with
  | succ i => simp at hi
  | zero =>
    simp at hi
    subst hi
    refine ⟨jcs j a cap, fun k u hu => ?_, hr⟩
    rw [Nat.zero_mul, Go.Addr.add_add, Nat.zero_add]
    have : (⟨b, 0, none⟩ : Addr).add k = ⟨b, k, none⟩ := by unfold Addr.add; split <;> simp_all
    rw [this, cell_of_row w b k _ 81 (0, 0) hb]
    simpa using hu

def InsPost (w : World) (base : Nat) (F : Nat → Prop) (v : Value) (xs : List Jn) (e : Ending) (w' : World) : Prop :=
  ∃ v', e = .returned v' ∧ OwnF tJn w' base F v' xs ∧ w.grownBy w' v.ownBlock ∧ (v'.ownBlock = v.ownBlock ∨ v'.ownBlock = some w.heap.size)

set_option maxHeartbeats 4000000 in
set_option maxRecDepth 100000 in
theorem insert_end {w : World} {base : Nat} {F : Nat → Prop} {v : Value} {xs : List Jn} (hown : OwnF tJn w base F v xs) (hbase : base ≤ w.heap.size) (hlen : xs.length ≤ 1000) (j : Jn) (ja : Option Addr) (jc bj : Nat)
    (hbj : w.heap[bj]? = some (.cells #[.int .i64 j.id, .int .i64 j.en, .int .i64 j.pe, .string j.ref, .slice ja j.lines.length jc, .bool j.void] 81 (0, 0)))
    (hj : tJn.R w (fun k => F k ∧ some k ≠ v.ownBlock ∧ k < w.heap.size) (jcs j ja jc) j) :
    Calls Tryz.prog 158 #[v, .int .i64 xs.length, .slice (some ⟨bj, 0, none⟩) 1 1] w (InsPost w base F v (xs ++ [j])) := by
  obtain ⟨i0, hi, hz0, hz1, hz2⟩ := info_parts infoJ
  have HO := Lib.hid hown
  have HY := Lib.hid (cells_oneJ hbj hj)
  have h63 : xs.length + [j].length ≤ maxLen := by simp only [List.length_cons, List.length_nil]; unfold maxLen; omega
  have hby : (xs.length + [j].length) * 72 ≤ 140737488355328 := by simp only [List.length_cons, List.length_nil]; omega
  have hf := hown.form
  clear hown hbj hj
  rcases hf with ⟨rfl, rfl⟩ | ⟨g, cap, rfl, hle, hcap⟩
  · go_enter Tryz.func158, Tryz.ntmps158
    go_wp2_with (at_builtin; refine wp_appF (T := tJn) rfl _ _ 23 rfl i0 (.agg #[.int .i64 0, .int .i64 0, .int .i64 0, .string ⟨#[]⟩, .slice none 0 0, .bool false]) 72 Tryz.underlying23 hi hz0 hz1 hz2 rfl (by decide) jn_one base F (.slice none 0 0) [] rfl HO.out ⟨bj, 0, none⟩ 1 [j] rfl HY.out h63 hby hbase ?_; intro v' w' hown' hg hnil hat)
    go_ret
    exact ⟨v', rfl, hown', hg, hat⟩
  · have hcc : cap = xs.length ∨ xs.length < cap := by omega
    rcases hcc with rfl | hcc
    · go_enter Tryz.func158, Tryz.ntmps158
      go_wp2_with (at_builtin; refine wp_appF (T := tJn) rfl _ _ 23 rfl i0 (.agg #[.int .i64 0, .int .i64 0, .int .i64 0, .string ⟨#[]⟩, .slice none 0 0, .bool false]) 72 Tryz.underlying23 hi hz0 hz1 hz2 rfl (by decide) jn_one base F (.slice (some ⟨g, 0, none⟩) xs.length xs.length) xs rfl HO.out ⟨bj, 0, none⟩ 1 [j] rfl HY.out h63 hby hbase ?_; intro v' w' hown' hg hnil hat)
      go_ret
      exact ⟨v', rfl, hown', hg, hat⟩
    · go_enter Tryz.func158, Tryz.ntmps158
      go_wp2_with (at_builtin; refine wp_appF (T := tJn) rfl _ _ 23 rfl i0 (.agg #[.int .i64 0, .int .i64 0, .int .i64 0, .string ⟨#[]⟩, .slice none 0 0, .bool false]) 72 Tryz.underlying23 hi hz0 hz1 hz2 rfl (by decide) jn_one base F (.slice (some ⟨g, 0, none⟩) xs.length cap) xs rfl HO.out ⟨bj, 0, none⟩ 1 [j] rfl HY.out h63 hby hbase ?_; intro v' w' hown' hg hnil hat)
      go_ret
      exact ⟨v', rfl, hown', hg, hat⟩

/-- a book of the call's own -/
structure BookOwn (w : World) (base g : Nat) (v : Value) (l : List Jn) : Prop where
  cell : w.heap[g]? = some (.cells #[v] 188 (0, 0))
  ge : base ≤ g
  own : OwnF tJn w base (fun k => base ≤ k ∧ k ≠ g) v l
theorem BookOwn.at_ {w : World} {base g : Nat} {v : Value} {l : List Jn} (h : BookOwn w base g v l) : ∃ a cap, v = .slice a l.length cap ∧ BookAt w g a cap l (fun k => base ≤ k) := by
  have hlt := h.own.lt
  obtain ⟨a, cap, rfl, h1, h2, h3⟩ := h.own.slice
  refine ⟨a, cap, rfl, h.cell, Sl.mono (fun k _ hk => ?_) h3, h1, h2⟩
  rcases hk with hk | hk
  · exact hk.1.1
  · exact (hlt k hk).1
theorem BookOwn.below {w w' : World} {base g : Nat} {v : Value} {l : List Jn} (h : BookOwn w base g v l) (hb : Below w.heap.size w w') : BookOwn w' base g v l := ⟨blk_below h.cell hb, h.ge, h.own.below hb⟩

def PostPost (w : World) (base g : Nat) (v : Value) (l : List Jn) (j : Jn) (e : Ending) (w' : World) : Prop :=
  e = .returned (.int .i64 (postJ l j)) ∧ Below base w w' ∧ (postJ l j ≠ 0 → BookOwn w' base g v l) ∧ (postJ l j = 0 → ∃ v', BookOwn w' base g v' (l ++ [j]))

theorem find_new {w : World} {b : Nat} {a : Option Addr} {cap : Nat} {l : List Jn} {F : Nat → Prop} (h : BookAt w b a cap l F) (hl : l.length ≤ 100000) (hO : OrdJ l) (id : Int) (hid : I64 id) (hn : ∀ x ∈ l, x.id < id) (hin : inId id = true) :
    Calls Tryz.prog 156 #[.pointer (some ⟨b, 0, none⟩), .int .i64 id] w fun e w' => e = .returned (.tuple #[.int .i64 l.length, .bool false]) ∧ Below w.heap.size w w' := by
  refine (find_any h hl hO id hid).mono ?_
  rintro e w' ⟨k, rfl, HE, hb⟩
  have hk : k = l.length := by
    rw [HE.low hin]
    exact lowB_is l id l.length (Nat.le_refl _) (fun t ht _ => hn _ (List.getElem_mem ht)) (fun t ht h => by omega)
  have hh : hasJ l id = false := by
    unfold hasJ
    rw [List.any_eq_false]
    intro x hx
    have := hn x hx
    simp
    omega
  rw [hh, hk]
  exact ⟨rfl, hb⟩
theorem taken_is {w : World} {b : Nat} {a : Option Addr} {cap : Nat} {l : List Jn} {F : Nat → Prop} (h : BookAt w b a cap l F) (j : Jn) (ja : Option Addr) (jc : Nat) {r : Bool} (hr : takenJ l j = r) :
    Calls Tryz.prog 157 #[.pointer (some ⟨b, 0, none⟩), jnv j ja jc] w fun e w' => e = .returned (.bool r) ∧ Below w.heap.size w w' := by
  have := taken_any h j ja jc
  rwa [hr] at this
theorem echeck_is (j : Jn) (a : Option Addr) (cap : Nat) (w : World) {F : Nat → Prop} (hsz : j.ref.size ≤ 140737488351232) (hpe : I64 j.pe) (hs : Sl tLn w F a j.lines) {c : Int} (hc : chk j = c) :
    Calls Tryz.prog 155 #[jnv j a cap] w fun e w' => e = .returned (.int .i64 c) ∧ Below w.heap.size w w' := by
  have := echeck_any j a cap w hsz hpe hs
  rwa [hc] at this
theorem chk_id {j : Jn} (h : chk j = 0) : 1 ≤ j.id ∧ j.id ≤ 999999 ∧ j.lines ≠ [] := by
  have hf : frontBad j = false := by
    cases hh : frontBad j with
    | false => rfl
    | true => simp [chk, hh] at h
  obtain ⟨h1, h2, _, _, _, _, h7, _⟩ := front_ok hf
  refine ⟨h1, h2, fun he => ?_⟩
  rw [he] at h7
  simp at h7

theorem ins_base {w w5 : World} {base : Nat} (h : Below w.heap.size w w5) (hb : base ≤ w.heap.size) (o : Obj) : base ≤ (w5.alloc o).heap.size := by
  have := h.size
  simp
  omega
theorem ins_ne {w : World} {base g : Nat} {F : Nat → Prop} {v : Value} {l : List Jn} {cs : Array Value} (h : OwnF tJn w base F v l) (hg : w.heap[g]? = some (.cells cs 188 (0, 0))) : some g ≠ v.ownBlock := fun e => (h.ne hg (by decide)) e.symm
theorem ins_elem {w w4 w5 : World} {base g : Nat} {v : Value} {l : List Jn} {j : Jn} {a5 : Option Addr} {c5 : Nat} (hr : tJn.R w5 (fun k => w4.heap.size ≤ k ∧ k < w5.heap.size) (jcs j a5 c5) j) (hb : Below w.heap.size w w4) (ho : OwnF tJn w4 base (fun k => base ≤ k ∧ k ≠ g) v l) (hbase : base ≤ w.heap.size) (hg : g < w4.heap.size) (o : Obj) :
    tJn.R (w5.alloc o) (fun k => (base ≤ k ∧ k ≠ g) ∧ some k ≠ v.ownBlock ∧ k < (w5.alloc o).heap.size) (jcs j a5 c5) j := by
  have hs := hb.size
  refine tJn.mono (fun k hk hf => ⟨⟨?_, ?_⟩, fun e => ?_, hk⟩) (tJn.keep (fun k hk _ => Below.heap_alloc w5 _ k hk) hr)
  · have := hf.1; omega
  · have := hf.1; omega
  · have := (ho.lt k e.symm).2
    have := hf.1
    omega
theorem ins_below {w w5 w6 : World} {base g : Nat} {F : Nat → Prop} {o : Obj} {v u : Value} {l : List Jn} (h : Below w.heap.size w w5) (hb : base ≤ w.heap.size) (hg : (w5.alloc o).grownBy w6 v.ownBlock) (ho : OwnF tJn w5 base F v l) (hge : base ≤ g) :
    Below base w (w6.setCell ⟨g, 0, none⟩ u) := by
  have hs := h.size
  have h1 : Below base w (w5.alloc o) := (h.mono hb).alloc (by omega) o
  exact (h1.grown hg (by simp; omega) (fun k e => (ho.lt k e).1)).setCell hge u
theorem ins_book {w4 w5 w6 : World} {base g : Nat} {o : Obj} {v v6 : Value} {l m : List Jn} {u : Value} {cs : Array Value} (hg : w6.heap[g]? = some (.cells #[u] 188 (0, 0))) (ho : OwnF tJn w6 base (fun k => base ≤ k ∧ k ≠ g) v6 m) (hge : base ≤ g)
    (hat : v6.ownBlock = v.ownBlock ∨ v6.ownBlock = some (w5.alloc o).heap.size) (hgr : (w5.alloc o).grownBy w6 v.ownBlock) (h4 : OwnF tJn w4 base (fun k => base ≤ k ∧ k ≠ g) v l) (hg4 : w4.heap[g]? = some (.cells cs 188 (0, 0))) :
    BookOwn (w6.setCell ⟨g, 0, none⟩ v6) base g v6 m := by
  refine ⟨by have := blk_set hg 0 v6; simpa using this, hge, ho.far (fun k hk => hk.2) ?_ v6⟩
  show v6.ownBlock ≠ some g
  exact ho.ne hg (by decide)

set_option maxHeartbeats 8000000 in
set_option maxRecDepth 100000 in
theorem post_end {w : World} {base g : Nat} {v : Value} {l : List Jn} (h : BookOwn w base g v l) (hbase : base ≤ w.heap.size) (hl : l.length ≤ 1000) (hO : OrdJ l) (j : Jn) (ja : Option Addr) (jc : Nat) {F : Nat → Prop} (hj : tJn.R w F (jcs j ja jc) j) (hn : ∀ x ∈ l, x.id < j.id) :
    Calls Tryz.prog 132 #[.pointer (some ⟨g, 0, none⟩), jnv j ja jc] w (PostPost w base g v l j) := by
  obtain ⟨a, cap, rfl, hat⟩ := h.at_
  have hgl := blk_lt h.cell
  have H := Lib.hid h
  have HAT := Lib.hid hat
  have HO := Lib.hid hO
  have HN := Lib.hid hn
  have HJ := Lib.hid hj
  have hcs := post_cases l j
  generalize hp : postJ l j = p at hcs
  generalize hc : chk j = c at hcs
  have HP := Lib.hid hp
  have HC := Lib.hid hc
  obtain ⟨q1, q2, q3, q4, q5, _, _, _⟩ := jcs_inv hj
  have HI := Lib.hid q1
  have HPE := Lib.hid q3
  have HSZ := Lib.hid q4
  have HLN := Lib.hid q5
  have hgo : PostPost w base g (.slice a l.length cap) l j = fun e w' => e = .returned (.int .i64 p) ∧ Below base w w' ∧ (p ≠ 0 → BookOwn w' base g (.slice a l.length cap) l) ∧ (p = 0 → ∃ v', BookOwn w' base g v' (l ++ [j])) := by
    funext e w'; unfold PostPost; rw [hp]
  clear h hat hO hn hj hp hc q1 q2 q3 q4 q5 hgo
  obtain ⟨id, en, pe, ref, lines, void⟩ := j
  simp only at HI HPE HSZ HLN hcs
  have HZ := Lib.hid (blk_new w (.cells #[.int .i64 id, .int .i64 en, .int .i64 pe, .string ref, .slice ja lines.length jc, .bool void] 81))
  have HB := Lib.hid ((Below.refl w.heap.size w).alloc (Nat.le_refl _) (.cells #[.int .i64 id, .int .i64 en, .int .i64 pe, .string ref, .slice ja lines.length jc, .bool void] 81))
  have HS1 : Hid (Sl tLn (w.alloc (.cells #[.int .i64 id, .int .i64 en, .int .i64 pe, .string ref, .slice ja lines.length jc, .bool void] 81)) F ja lines) := Lib.hid (Sl.keep (fun k hk _ => Below.heap_alloc w _ k hk) HLN.out)
  go_enter Tryz.func132, Tryz.ntmps132
  go_wp2_with fail
  refine (echeck_is ⟨id, en, pe, ref, lines, void⟩ ja jc _ HSZ.out HPE.out HS1.out HC.out).mono ?_
  rintro e w2 ⟨rfl, hb⟩
  have hz := blk_below HZ.out hb
  have HZ2 := Lib.hid hz
  have HB2 := Lib.hid (belows_then HB.out (by simp) hb)
  clear hb HS1
  have hzc := blk_cells hz
  have hzl := blk_lt hz
  clear hz
  rcases hcs with ⟨h1, h2⟩ | ⟨h1, hcs⟩
  · go_wp2_with fail
    go_ret
    refine ⟨by rw [HP.out, h2]; rfl, HB2.out.mono hbase, fun _ => H.out.below HB2.out, fun h => ?_⟩
    rw [HP.out, h2] at h
    rw [h] at h1
    simp at h1
  · have hc0 : chk ⟨id, en, pe, ref, lines, void⟩ = 0 := by rw [HC.out]; simpa using h1
    have hid := chk_id hc0
    have HNE := Lib.hid hid.2.2
    have HIN : Hid (inId id = true) := Lib.hid (by have := hid.1; have := hid.2.1; simp only at *; simp [inId]; omega)
    clear hid hc0
    go_wp2_with fail
    refine (find_new (HAT.out.below HB2.out) (by omega) HO.out id HI.out HN.out HIN.out).mono ?_
    rintro e w3 ⟨rfl, hb⟩
    have hz := blk_below HZ2.out hb
    have HZ3 := Lib.hid hz
    have HB3 := Lib.hid (belows_then HB2.out HB2.out.size hb)
    clear hb hzc hzl
    have hzc := blk_cells hz
    have hzl := blk_lt hz
    clear hz
    have hhas : hasJ l id = false := by
      unfold hasJ
      rw [List.any_eq_false]
      intro x hx
      have := HN.out x hx
      simp
      omega
    simp only [hhas, Bool.false_eq_true, false_and, true_and, false_or] at hcs
    clear hhas
    rcases hcs with ⟨h3, h4⟩ | ⟨h3, hcs⟩
    · have HT := Lib.hid h3
      clear h3
      go_wp2_with fail
      refine (taken_is (HAT.out.below HB3.out) ⟨id, en, pe, ref, lines, void⟩ ja jc HT.out).mono ?_
      rintro e w4 ⟨rfl, hb⟩
      have HB4 := Lib.hid (belows_then HB3.out HB3.out.size hb)
      clear hb
      go_wp2_with fail
      go_ret
      exact ⟨by rw [HP.out, h4]; rfl, HB4.out.mono hbase, fun _ => H.out.below HB4.out, fun h => by rw [HP.out, h4] at h; cases h⟩
    · have HT := Lib.hid h3
      clear h3
      go_wp2_with fail
      refine (taken_is (HAT.out.below HB3.out) ⟨id, en, pe, ref, lines, void⟩ ja jc HT.out).mono ?_
      rintro e w4 ⟨rfl, hb⟩
      have hz := blk_below HZ3.out hb
      have HZ4 := Lib.hid hz
      have HB4 := Lib.hid (belows_then HB3.out HB3.out.size hb)
      clear hb hzc hzl
      have hzc := blk_cells hz
      have hzl := blk_lt hz
      clear hz
      have hgb := HB4.out.block g hgl
      have hgc := blk_cells (hgb.trans H.out.cell)
      have hgf := blk_frz (hgb.trans H.out.cell)
      have hgl4 := blk_lt (hgb.trans H.out.cell)
      clear hgb
      rcases hcs with ⟨h5, h6⟩ | ⟨h5, h6⟩
      · go_wp2_with fail
        go_ret
        exact ⟨by rw [HP.out, h6]; rfl, HB4.out.mono hbase, fun _ => H.out.below HB4.out, fun h => by rw [HP.out, h6] at h; cases h⟩
      · have hzn : ¬ w.heap.size = g := by omega
        have HRJ : Hid (tJn.R w4.drew F (jcs ⟨id, en, pe, ref, lines, void⟩ ja jc) ⟨id, en, pe, ref, lines, void⟩) := Lib.hid (tJn.keep (fun k hk _ => HB4.out.block k hk) HJ.out)
        have HO4 : Hid (OwnF tJn w4.drew base (fun k => base ≤ k ∧ k ≠ g) (.slice a l.length cap) l) := Lib.hid ((H.out.below HB4.out).own.keep (Nat.le_refl _) (fun k hk => rfl))
        have HG4 : Hid (w4.drew.heap[g]? = some (.cells #[.slice a l.length cap] 188 (0, 0))) := Lib.hid (H.out.below HB4.out).cell
        have HB5 := Lib.hid (Below.drew HB4.out)
        go_wp2_with fail
        go_region_with (first
          | (go_at_call 121; go_loud (refine (ecopy_any ⟨id, en, pe, ref, lines, void⟩ ja jc w4.drew HRJ.out HNE.out).mono ?_; rintro e w5 ⟨a5, c5, rfl, hb5, hr5⟩; have hg5 := blk_below HG4.out hb5; have HG5 := Lib.hid hg5; have hgc5 := blk_cells hg5; have hgf5 := blk_frz hg5; have hgl5 := blk_lt hg5; have HO5 := Lib.hid (HO4.out.below hb5); have HR5 := Lib.hid hr5; have HB6 := Lib.hid (belows_then HB5.out HB5.out.size hb5); clear hg5 hr5 hb5))
          | (go_at_call 158; go_loud (refine (insert_end (HO5.out.alloc (.cells #[.int .i64 id, .int .i64 en, .int .i64 pe, .string ref, .slice a5 lines.length c5, .bool void] 81)) (ins_base HB6.out hbase _) hl ⟨id, en, pe, ref, lines, void⟩ a5 c5 w5.heap.size (blk_new w5 _) (ins_elem HR5.out HB5.out HO4.out hbase hgl4 _)).mono ?_; rintro e w6 ⟨v6, rfl, ho6, hg6, hat6⟩; obtain ⟨a6, c6, rfl, _⟩ := ho6.slice; have HG6 := Lib.hid ((hg6.block g (by simp; omega) (ins_ne HO4.out HG4.out)).trans (blk_alloc HG5.out _)); have HO6 := Lib.hid ho6; have HGR := Lib.hid hg6; have HAT6 := Lib.hid hat6; clear ho6 hg6 hat6 hgc5 hgf5 hgl5; have hgc6 := blk_cells HG6.out; have hgf6 := blk_frz HG6.out; have hgl6 := blk_lt HG6.out)))
        all_goals
          go_wp2_with fail
          go_ret
          exact ⟨by rw [HP.out, h6]; rfl, ins_below HB6.out hbase HGR.out HO5.out H.out.ge, fun h => by rw [HP.out] at h; exact absurd h6 h, fun _ => ⟨.slice a6 (l.length + 1) c6, by have h := ins_book HG6.out HO6.out H.out.ge HAT6.out HGR.out HO4.out HG4.out; simp only [List.length_append, List.length_cons, List.length_nil, Nat.zero_add] at h; exact h⟩⟩
end Go.Proofs.YtgggpaacagbmcaaGreat
