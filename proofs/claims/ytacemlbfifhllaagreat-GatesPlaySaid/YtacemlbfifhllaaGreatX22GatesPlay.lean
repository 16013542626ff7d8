/- Lists that are kept: several lists of a call's own, apart from each other; append that tells what becomes of the old row. -/
import Derived.Test.YtacemlbfifhllaaGreatX21GatesPlay
set_option linter.unusedVariables false
set_option linter.unusedSimpArgs false
namespace Go.Proofs.YtacemlbfifhllaaGreat
open Go.RowKit Go.Maps Go.Deep

section
variable {P : Program} {e : TypeId} {α : Type} {T : Ty P e α}

/-- append: either in the old row, or all that was there stays -/
theorem run_appK (w : World) (base : Nat) (t ty e : TypeId) (i : TypeInfo) (z : Value) (size bytes : Nat) (ht : P.underlying t = some (.slice e)) (hi : P.info? e = some i) (hz : i.zero = some z)
    (hsize : i.size = size) (hby : i.bytes = bytes) (hzs : z.cells.size = size) (hsz : 0 < size)
    (v : Value) (n : Nat) (xs : List Value) (hown : w.ownsRow base e size v n xs)
    (a : Addr) (m c : Nat) (news : List Value) (hl : news.length = m * size) (hnews : ∀ j u, news[j]? = some u → w.cell? (a.add j) = some u) (h1 : ∀ u ∈ news, u.oneCell' = true)
    (h63 : n + m ≤ maxLen) (hbytes : (n + m) * bytes ≤ 140737488355328) (hbase : base ≤ w.heap.size) :
    ∃ v' w', (Builtin.append_ #[t, t] ty #[v, .slice (some a) m c]).run P w = .ok v' w' ∧ w'.ownsRow base e size v' (n + m) (xs ++ news) ∧ w.grownBy w' v.ownBlock ∧
      (v'.ownBlock = v.ownBlock ∨ v'.ownBlock = some w.heap.size ∧ ∀ k, k < w.heap.size → w'.heap[k]? = w.heap[k]?) := by
  obtain ⟨v', w', hr, h2, h3, h4, h5⟩ := run_append_own_at (P := P) w base t ty e i z size bytes ht hi hz hsize hby hzs hsz v n xs hown a m c news hl hnews h1 h63 hbytes hbase
  refine ⟨v', w', hr, h2, h3, ?_⟩
  rcases hown.2 with ⟨rfl, rfl⟩ | ⟨g, cap, cur, rfl, hbg, hg, hnc, hcm, hcs, htake⟩
  · rcases h5 with h5 | h5
    · exact .inl h5
    · exact .inr ⟨h5, fun k hk => h3.block k hk (by simp [Value.ownBlock])⟩
  · subst hsize
    subst hby
    by_cases hroom : n + m ≤ cap
    · have hfit : n * i.size + news.length ≤ cur.size := by rw [hl, hcs, ← Nat.add_mul]; exact Nat.mul_le_mul_right _ hroom
      have hr' := run_append_room (P := P) w t ty e i ht hi g n cap cur hg a m c news hl hnews h1 hroom hfit
      rw [hr] at hr'
      injection hr' with hv hw
      subst hv
      exact .inl rfl
    · have holds : ∀ j u, xs[j]? = some u → w.cell? ((⟨g, 0, none⟩ : Addr).add j) = some u := hown.cells (g := g) rfl
      have hsmall : n + m ≤ 9223372036854775807 := by simp only [maxLen] at h63; omega
      have hr' := run_append_grow (P := P) w t ty e i z ht hi hz ⟨g, 0, none⟩ n cap xs hown.1 holds a m c news hl hnews (by omega) (by omega) (growslice_fits (by omega) hbytes)
      rw [hr] at hr'
      injection hr' with hv hw
      subst hv
      subst hw
      exact .inr ⟨rfl, fun k hk => Below.heap_alloc w.drew _ k hk⟩

variable {ops : Array Oper} {rest : List Oper} {o : Oper} {a : Act} {Q : Exit → Act → World → Prop} {w : World}
theorem wp_appK (hgd : o.guard = none) (s x : Operand) (t : TypeId) (ho : o.op = .call { callee := .builtin .append, args := #[s, x], argTypes := #[t, t] })
    (i : TypeInfo) (z : Value) (bytes : Nat) (ht : P.underlying t = some (.slice e)) (hi : P.info? e = some i) (hz : i.zero = some z) (hsize : i.size = T.n) (hby : i.bytes = bytes) (hzs : z.cells.size = T.n) (hsz : 0 < T.n)
    (h1c : ∀ (w : World) (F : Nat → Prop) (c : List Value) (x : α), T.R w F c x → ∀ u ∈ c, u.oneCell' = true)
    (base : Nat) (v : Value) (xs : List α) (hs : a.eval s = v) (hown : OwnL T w base v xs) (ad : Addr) (c : Nat) (ys : List α) (hx : a.eval x = .slice (some ad) ys.length c)
    (hys : Sl T w (fun k => some k ≠ v.ownBlock ∧ k < w.heap.size) (some ad) ys) (h63 : xs.length + ys.length ≤ maxLen) (hbytes : (xs.length + ys.length) * bytes ≤ 140737488355328) (hbase : base ≤ w.heap.size)
    (h : ∀ v' w', OwnL T w' base v' (xs ++ ys) → w.grownBy w' v.ownBlock → (v'.ownBlock = v.ownBlock ∨ v'.ownBlock = some w.heap.size ∧ ∀ k, k < w.heap.size → w'.heap[k]? = w.heap[k]?) → wpList P ops Q rest (a.put o.dst v') w') :
    wpList P ops Q (o :: rest) a w := by
  obtain ⟨css, h1, h2, h3, h4⟩ := hown
  obtain ⟨news, n2, n4, n3, n5⟩ := hys.rows
  refine wpList_plain hgd fun K hK => ?_
  obtain ⟨v', w', hr, g2, g3, g5⟩ := run_appK (P := P) w base t o.type e i z T.n bytes ht hi hz hsize hby hzs hsz v xs.length css.flatten h1 ad ys.length c news.flatten (by rw [flat_len n3, n2]) n5 (by
    intro u hu
    obtain ⟨c', hc', hu'⟩ := List.mem_flatten.1 hu
    obtain ⟨k, hk, rfl⟩ := List.mem_iff_getElem.1 hc'
    exact h1c w _ _ _ (n4 k _ _ (List.getElem?_eq_getElem hk) (List.getElem?_eq_getElem (by omega))) u hu') h63 hbytes hbase
  unfold Oper.wp
  simp only [execOp, ho, resolve, invoke, builtin, Sem.run_bind, Sem.run_pure, Result.andThen_ok, List.map_toArray, List.map_cons, List.map_nil, hs, hx, hr]
  exact hK _ _ (h v' w' (OwnL.app h2 h3 h4 n2 n3 n4 g2 g3 (g5.imp id (·.1))) g3 g5)

/-- elements that hold nothing of memory -/
def Free (T : Ty P e α) : Prop := ∀ (w w' : World) (F G : Nat → Prop) (c : List Value) (x : α), T.R w F c x → T.R w' G c x

theorem OwnL.keepF {w w' : World} {base : Nat} {v : Value} {xs : List α} (hfr : Free T) (h : OwnL T w base v xs) (hb : ∀ k, v.ownBlock = some k → w'.heap[k]? = w.heap[k]?) : OwnL T w' base v xs := by
  obtain ⟨css, ⟨hr1, hr2⟩, hr3, hr4, hr5⟩ := h
  refine ⟨css, ⟨hr1, ?_⟩, hr3, hr4, fun i c y hi hy => hfr _ _ _ _ _ _ (hr5 i c y hi hy)⟩
  rcases hr2 with ⟨hn, h0⟩ | ⟨g, cap, cur, hg0, hbb, hc, rest⟩
  · exact .inl ⟨hn, h0⟩
  · exact .inr ⟨g, cap, cur, hg0, hbb, (hb g (by rw [hg0]; rfl)).trans hc, rest⟩
theorem OwnL.far {w w' : World} {base : Nat} {v u : Value} {xs : List α} (hfr : Free T) (h : OwnL T w base v xs) (hg : w.grownBy w' u.ownBlock) (hne : ApartV v u) : OwnL T w' base v xs := by
  have hlt := h.lt
  refine h.keepF hfr (fun k hk => hg.block k (hlt k hk).2 (fun e => ?_))
  rcases hne with hne | hne
  · rw [hne] at hk; cases hk
  · exact hne (by rw [hk, e])
theorem OwnL.but {w w' : World} {base : Nat} {v : Value} {xs : List α} {F : Nat → Prop} (hfr : Free T) (h : OwnL T w base v xs) (hb : But F w w') (hne : ∀ k, v.ownBlock = some k → ¬ F k) : OwnL T w' base v xs := by
  have hlt := h.lt
  exact h.keepF hfr (fun k hk => hb.block k (hlt k hk).2 (hne k hk))
theorem ApartV.stepF {w : World} {base : Nat} {u v v' : Value} {xs : List α} (h : ApartV u v) (ho : OwnL T w base u xs) (hat : v'.ownBlock = v.ownBlock ∨ v'.ownBlock = some w.heap.size) : ApartV u v' := by
  rcases hat with e | e
  · unfold ApartV
    rw [e]
    exact h
  · right
    rw [e]
    intro he
    have := (ho.lt _ he).2
    omega
theorem Sl.free {w w' : World} {F G : Nat → Prop} {a : Option Addr} {xs : List α} (hfr : Free T) (h : Sl T w F a xs) (hb : ∀ ad, a = some ad → G ad.block ∧ ad.block < w'.heap.size ∧ w'.heap[ad.block]? = w.heap[ad.block]?) : Sl T w' G a xs := by
  intro i x hx
  obtain ⟨ad, ces, rfl, _, _, hc, hr⟩ := h i x hx
  obtain ⟨h1, h2, h3⟩ := hb ad rfl
  refine ⟨ad, ces, rfl, h1, h2, fun j u hu => ?_, hfr _ _ _ _ _ _ hr⟩
  rw [← hc j u hu]
  exact World.cell?_of_block (w := w) (by rw [add_block, add_block]; exact h3)

/-- what lies in a row, be it the one that append turns, stays -/
theorem Sl.appK {w w' : World} {base : Nat} {v v' : Value} {xs ys zs r : List α} {a : Option Addr} (hfr : Free T) (ho : OwnL T w base v xs) (ho' : OwnL T w' base v' (xs ++ ys)) (hg : w.grownBy w' v.ownBlock)
    (hk : v'.ownBlock = v.ownBlock ∨ v'.ownBlock = some w.heap.size ∧ ∀ k, k < w.heap.size → w'.heap[k]? = w.heap[k]?) (hs : Sl T w (fun _ => True) a zs) (ha : ∀ ad, a = some ad → some ad.block = v.ownBlock → ad = ⟨ad.block, 0, none⟩) (hz : xs = zs ++ r) : Sl T w' (fun _ => True) a zs := by
  by_cases hsame : ∃ ad, a = some ad ∧ some ad.block = v.ownBlock ∧ v'.ownBlock = v.ownBlock
  · obtain ⟨ad, rfl, hb, hv⟩ := hsame
    have had := ha ad rfl hb
    rw [hz] at ho'
    rcases ho'.form with ⟨rfl, _⟩ | ⟨g, cap, rfl, _, _⟩
    · rw [← hb] at hv; cases hv
    · rw [← hb] at hv
      have hv' : g = ad.block := by simpa [Value.ownBlock] using hv
      subst hv'
      rw [had]
      exact (Sl.left (Sl.left ho'.sl))
  · intro i x hx
    obtain ⟨ad, ces, rfl, _, hlt, hc, hr⟩ := hs i x hx
    have hbl : w'.heap[ad.block]? = w.heap[ad.block]? := by
      rcases hk with hk | ⟨_, hk⟩
      · exact hg.block _ hlt (fun e => hsame ⟨ad, rfl, e, hk⟩)
      · exact hk _ hlt
    refine ⟨ad, ces, rfl, trivial, Nat.lt_of_lt_of_le hlt hg.size, fun j u hu => ?_, hfr _ _ _ _ _ _ hr⟩
    rw [← hc j u hu]
    exact World.cell?_of_block (w := w) (by rw [add_block, add_block]; exact hbl)

variable (T) in
/-- several lists of the call's own, apart from each other -/
structure Lots (w : World) (base : Nat) (vs : List Value) (L : List (List α)) : Prop where
  len : vs.length = L.length
  own : ∀ (i : Nat) (v : Value) (l : List α), vs[i]? = some v → L[i]? = some l → OwnL T w base v l
  apart : ∀ (i j : Nat) (u v : Value), i ≠ j → vs[i]? = some u → vs[j]? = some v → ApartV u v
variable {base : Nat} {vs : List Value} {L : List (List α)}
theorem Lots.nil (w : World) (base : Nat) : Lots T w base [] [] := ⟨rfl, by simp, by simp⟩
theorem Lots.lt (h : Lots T w base vs L) {v : Value} (hv : v ∈ vs) : ∀ k, v.ownBlock = some k → base ≤ k ∧ k < w.heap.size := by
  obtain ⟨i, hi, rfl⟩ := List.mem_iff_getElem.1 hv
  exact (h.own i _ _ (List.getElem?_eq_getElem hi) (List.getElem?_eq_getElem (by rw [← h.len]; exact hi))).lt
theorem Lots.keep {w' : World} (h : Lots T w base vs L) (hs : w.heap.size ≤ w'.heap.size) (hb : ∀ k, k < w.heap.size → w'.heap[k]? = w.heap[k]?) : Lots T w' base vs L :=
  ⟨h.len, fun i v l hv hl => (h.own i v l hv hl).keep hs hb, h.apart⟩
theorem Lots.below {w' : World} (h : Lots T w base vs L) (hb : Below w.heap.size w w') : Lots T w' base vs L := h.keep hb.size hb.block
theorem Lots.but {w' : World} {F : Nat → Prop} (hfr : Free T) (h : Lots T w base vs L) (hb : But F w w') (hne : ∀ v ∈ vs, ∀ k, v.ownBlock = some k → ¬ F k) : Lots T w' base vs L :=
  ⟨h.len, fun i v l hv hl => (h.own i v l hv hl).but hfr hb (hne v (List.mem_of_getElem? hv)), h.apart⟩
theorem Lots.mono {base' : Nat} (h : Lots T w base vs L) (hb : base' ≤ base) : Lots T w base' vs L := ⟨h.len, fun i v l hv hl => (h.own i v l hv hl).mono hb, h.apart⟩
/-- one more list, apart from all that are there -/
theorem Lots.snoc {v : Value} {l : List α} (h : Lots T w base vs L) (ho : OwnL T w base v l) (ha : ∀ u ∈ vs, ApartV u v) : Lots T w base (vs ++ [v]) (L ++ [l]) := by
  have hlen := h.len
  refine ⟨by simp [hlen], fun i u m hu hm => ?_, fun i j u x hij hu hx => ?_⟩
  · by_cases hlt : i < vs.length
    · rw [List.getElem?_append_left hlt] at hu
      rw [List.getElem?_append_left (by omega)] at hm
      exact h.own i u m hu hm
    · rw [List.getElem?_append_right (by omega)] at hu
      rw [List.getElem?_append_right (by omega)] at hm
      have h0 : i - vs.length = 0 := by
        have := (List.getElem?_eq_some_iff.1 hu).1
        simp at this
        omega
      rw [h0] at hu
      rw [← hlen, h0] at hm
      simp at hu hm
      subst hu
      subst hm
      exact ho
  · have hi := (List.getElem?_eq_some_iff.1 hu).1
    have hj := (List.getElem?_eq_some_iff.1 hx).1
    simp at hi hj
    by_cases h1 : i < vs.length
    · rw [List.getElem?_append_left h1] at hu
      by_cases h2 : j < vs.length
      · rw [List.getElem?_append_left h2] at hx
        exact h.apart i j u x hij hu hx
      · rw [List.getElem?_append_right (by omega)] at hx
        have h0 : j - vs.length = 0 := by omega
        rw [h0] at hx
        simp at hx
        subst hx
        exact ha u (List.mem_of_getElem? hu)
    · rw [List.getElem?_append_right (by omega)] at hu
      have h0 : i - vs.length = 0 := by omega
      rw [h0] at hu
      simp at hu
      subst hu
      rw [List.getElem?_append_left (by omega)] at hx
      exact (ha x (List.mem_of_getElem? hx)).symm
/-- one of them turns, within its row or into a new block -/
theorem Lots.set {w' : World} {i : Nat} {v v' : Value} {l' : List α} (hfr : Free T) (h : Lots T w base vs L) (hv : vs[i]? = some v) (ho : OwnL T w' base v' l') (hg : w.grownBy w' v.ownBlock) (hat : v'.ownBlock = v.ownBlock ∨ v'.ownBlock = some w.heap.size) :
    Lots T w' base (vs.set i v') (L.set i l') := by
  have hil := (List.getElem?_eq_some_iff.1 hv).1
  have hlen := h.len
  have step : ∀ (j : Nat) (u : Value), j ≠ i → vs[j]? = some u → ApartV u v' := fun j u hj hu => by
    have hjl := (List.getElem?_eq_some_iff.1 hu).1
    exact (h.apart j i u v hj hu hv).stepF (h.own j u _ hu (List.getElem?_eq_getElem (by omega))) hat
  refine ⟨by simp [hlen], fun j u m hu hm => ?_, fun j k u x hjk hu hx => ?_⟩
  · by_cases hji : j = i
    · subst hji
      rw [List.getElem?_set_self (by omega)] at hu hm
      injection hu with hu
      injection hm with hm
      subst hu
      subst hm
      exact ho
    · rw [List.getElem?_set_ne (Ne.symm hji)] at hu hm
      exact (h.own j u m hu hm).far hfr hg (h.apart j i u v hji hu hv)
  · by_cases hji : j = i
    · subst hji
      rw [List.getElem?_set_self (by omega)] at hu
      rw [List.getElem?_set_ne hjk] at hx
      injection hu with hu
      subst hu
      exact (step k x (Ne.symm hjk) hx).symm
    · rw [List.getElem?_set_ne (Ne.symm hji)] at hu
      by_cases hki : k = i
      · subst hki
        rw [List.getElem?_set_self (by omega)] at hx
        injection hx with hx
        subst hx
        exact step j u hji hu
      · rw [List.getElem?_set_ne (Ne.symm hki)] at hx
        exact h.apart j k u x hjk hu hx
end

/-- a slice, whatever it holds -/
def Ty.val {P : Program} {t e : TypeId} (h : P.underlying t = some (.slice e)) (hn : P.cellsOf t = 1) : Ty P t Value where
  n := 1
  R := fun _ _ cs v => cs = [v] ∧ ∃ a n c, v = .slice a n c
  hn := hn
  len := by rintro _ _ _ _ ⟨rfl, _⟩; rfl
  keep := fun _ h => h
  mono := fun _ h => h
  of := by
    intro H enc w fuel cs d ps h1 _
    rcases open_slice h h1 with ⟨rfl, _⟩ | ⟨a, len, cap, m, n, D, Pl, rfl, _⟩
    · exact ⟨_, rfl, _, _, _, rfl⟩
    · exact ⟨_, rfl, _, _, _, rfl⟩
theorem Ty.val_free {P : Program} {t e : TypeId} (h : P.underlying t = some (.slice e)) (hn : P.cellsOf t = 1) : Free (Ty.val h hn) := fun _ _ _ _ _ _ h => h
theorem bal_Free : Free tBal := fun w w' F G c x h => by
  obtain ⟨rfl, h1, h2⟩ := bal_inv h
  exact bal_mk _ h1 h2
end Go.Proofs.YtacemlbfifhllaaGreat
