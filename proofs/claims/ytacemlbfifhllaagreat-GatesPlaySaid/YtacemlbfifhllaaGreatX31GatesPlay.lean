/- variorumbook: growTrios. Printed by mktrios.py. -/
import Derived.Test.YtacemlbfifhllaaGreatX29GatesPlay
import Derived.Test.YtacemlbfifhllaaGreatX30GatesPlay
set_option linter.unusedVariables false
set_option linter.unusedSimpArgs false
namespace Go.Proofs.YtacemlbfifhllaaGreat
open Go.RowKit Go.Maps Go.Deep

/-- while lists grow: vs as they were (read), cur as they are, each in the old row or in a new one; cur apart from each other and from the other ones of vs -/
structure GrowT (w0 w : World) (base : Nat) (vs cur : List Value) (L C : List (List (Int × Int × Int))) : Prop where
  lots : Lots tTrio w base cur C
  same : cur.length = vs.length
  readsT : ReadsT w vs L
  pre : ∀ (i : Nat) (l c : List (Int × Int × Int)), L[i]? = some l → C[i]? = some c → ∃ r, c = l ++ r
  row : ∀ (i : Nat) (v u : Value), vs[i]? = some v → cur[i]? = some u → u.ownBlock = v.ownBlock ∨ ∀ k, u.ownBlock = some k → w0.heap.size ≤ k
  low : ∀ (v : Value), v ∈ vs → ∀ k, v.ownBlock = some k → k < w0.heap.size
  form : ∀ (v : Value), v ∈ vs → ∀ a n c, v = .slice (some a) n c → a = ⟨a.block, 0, none⟩
  vap : ∀ (i j : Nat) (u v : Value), i ≠ j → vs[i]? = some u → vs[j]? = some v → ApartV u v
theorem GrowT.start {w : World} {base : Nat} {vs : List Value} {L : List (List (Int × Int × Int))} (h : Lots tTrio w base vs L) : GrowT w w base vs vs L L :=
  ⟨h, rfl, h.readsT, fun i l c h1 h2 => ⟨[], by rw [h1] at h2; injection h2 with h2; simp [h2]⟩, fun i v u h1 h2 => .inl (by rw [h1] at h2; injection h2 with h2; rw [h2]), fun v hv k hk => (h.lt hv k hk).2, fun v hv a n c e => by
    obtain ⟨i, hi, hiv⟩ := List.mem_iff_getElem.1 hv
    have ho := h.own i v _ (by rw [List.getElem?_eq_getElem hi, hiv]) (List.getElem?_eq_getElem (by rw [← h.len]; exact hi))
    rcases ho.form with ⟨h1, _⟩ | ⟨g, cap, h1, _⟩
    · rw [h1] at e; cases e
    · rw [h1] at e
      injection e with e
      injection e with e
      rw [← e], h.apart⟩
theorem GrowT.below {w0 w w' : World} {base : Nat} {vs cur : List Value} {L C : List (List (Int × Int × Int))} (h : GrowT w0 w base vs cur L C) (hb : Below w.heap.size w w') : GrowT w0 w' base vs cur L C :=
  ⟨h.lots.below hb, h.same, h.readsT.keep hb, h.pre, h.row, h.low, h.form, h.vap⟩
/-- one of them grows -/
theorem GrowT.step {w0 w w' : World} {base : Nat} {vs cur : List Value} {L C : List (List (Int × Int × Int))} {i : Nat} {u u' : Value} {c ys : List (Int × Int × Int)} (h : GrowT w0 w base vs cur L C) (h0 : w0.heap.size ≤ w.heap.size) (hu : cur[i]? = some u) (hc : C[i]? = some c)
    (ho : OwnL tTrio w' base u' (c ++ ys)) (hg : w.grownBy w' u.ownBlock) (hk : u'.ownBlock = u.ownBlock ∨ u'.ownBlock = some w.heap.size ∧ ∀ k, k < w.heap.size → w'.heap[k]? = w.heap[k]?) :
    GrowT w0 w' base vs (cur.set i u') L (C.set i (c ++ ys)) := by
  have hcl := h.lots.len
  have hui := (List.getElem?_eq_some_iff.1 hu).1
  have hci := (List.getElem?_eq_some_iff.1 hc).1
  refine ⟨h.lots.set trio_Free hu ho hg (hk.imp id (·.1)), by rw [List.length_set]; exact h.same, ⟨h.readsT.1, fun j v l hv hl => ?_⟩, fun j l d hl hd => ?_, fun j v x hv hx => ?_, h.low, h.form, h.vap⟩
  · obtain ⟨a, k, e, hs⟩ := h.readsT.2 j v l hv hl
    refine ⟨a, k, e, ?_⟩
    by_cases hj : j = i
    · subst hj
      obtain ⟨r, hr⟩ := h.pre j l c hl hc
      exact Sl.appK trio_Free (h.lots.own j u c hu hc) ho hg hk hs (fun ad ha _ => h.form v (List.mem_of_getElem? hv) ad l.length k (by rw [e, ha])) hr
    · refine Sl.free trio_Free hs (fun ad ha => ⟨trivial, ?_⟩)
      have hvk : v.ownBlock = some ad.block := by rw [e, ha]; rfl
      have hlow := h.low v (List.mem_of_getElem? hv) _ hvk
      refine ⟨by have := hg.size; omega, hg.block _ (by omega) (fun e2 => ?_)⟩
      have hil : i < vs.length := by
        have h1 := h.readsT.1
        have hjl := (List.getElem?_eq_some_iff.1 hv).1
        by_cases hh : i < vs.length
        · exact hh
        · exfalso
          have := h.same; omega
      rcases h.row i vs[i] u (List.getElem?_eq_getElem hil) hu with h3 | h3
      · rcases h.vap j i v vs[i] hj hv (List.getElem?_eq_getElem hil) with h4 | h4
        · rw [hvk] at h4; cases h4
        · exact h4 (by rw [hvk, e2, h3])
      · have := h3 _ e2.symm
        omega
  · by_cases hj : i = j
    · subst hj
      rw [List.getElem?_set_self hci] at hd
      injection hd with hd
      obtain ⟨r, hr⟩ := h.pre i l c hl hc
      exact ⟨r ++ ys, by rw [← hd, hr, List.append_assoc]⟩
    · rw [List.getElem?_set_ne hj] at hd
      exact h.pre j l d hl hd
  · by_cases hj : i = j
    · subst hj
      rw [List.getElem?_set_self hui] at hx
      injection hx with hx
      subst hx
      rcases hk with hk | hk
      · rw [hk]; exact h.row i v u hv hu
      · exact .inr (fun k hk2 => by rw [hk.1] at hk2; injection hk2 with hk2; omega)
    · rw [List.getElem?_set_ne hj] at hx
      exact h.row j v x hv hx
/-- another row grows, one of the call's own that is apart from all of cur -/
theorem GrowT.far {w0 w w' : World} {base : Nat} {vs cur : List Value} {L C : List (List (Int × Int × Int))} {x : Value} (h : GrowT w0 w base vs cur L C) (h0 : w0.heap.size ≤ w.heap.size) (hg : w.grownBy w' x.ownBlock) (ha : ∀ u ∈ cur, ApartV x u) (hx : ∀ k, x.ownBlock = some k → w0.heap.size ≤ k) :
    GrowT w0 w' base vs cur L C := by
  refine ⟨⟨h.lots.len, fun i v l hv hl => (h.lots.own i v l hv hl).far trio_Free hg (ha v (List.mem_of_getElem? hv)).symm, h.lots.apart⟩, h.same, ⟨h.readsT.1, fun j v l hv hl => ?_⟩, h.pre, h.row, h.low, h.form, h.vap⟩
  obtain ⟨a, k, e, hs⟩ := h.readsT.2 j v l hv hl
  refine ⟨a, k, e, Sl.free trio_Free hs (fun ad ha => ⟨trivial, ?_⟩)⟩
  have hlow := h.low v (List.mem_of_getElem? hv) ad.block (by rw [e, ha]; rfl)
  exact ⟨by have := hg.size; omega, hg.block _ (by omega) (fun e2 => by have := hx _ e2.symm; omega)⟩

/-- the state while list n grows -/
structure GST (w wk : World) (base : Nat) (vs cur : List Value) (L C : List (List (Int × Int × Int))) (n : Nat) (vo u : Value) (q : Nat) : Prop where
  gr : GrowT w wk base vs (cur.set n u) L (C.set n (marksT n 0 q))
  out : OwnL tTrioV wk w.heap.size vo (cur.take n)
  ap : ∀ x ∈ cur.set n u, ApartV vo x
  but : But (InV vs) w wk
section
variable {w wk : World} {base : Nat} {vs cur : List Value} {L C : List (List (Int × Int × Int))} {n : Nat} {vo u : Value} {q : Nat}
theorem GST.call {w2 : World} (h : GST w wk base vs cur L C n vo u q) (hb : Below wk.heap.size wk w2) : GST w w2 base vs cur L C n vo u q :=
  ⟨h.gr.below hb, h.out.below hb, h.ap, h.but.call hb⟩
theorem GST.own (h : GST w wk base vs cur L C n vo u q) (hn : n < cur.length) : OwnL tTrio wk base u (marksT n 0 q) := by
  have hl := h.gr.lots.len
  simp at hl
  exact h.gr.lots.own n u _ (List.getElem?_set_self hn) (List.getElem?_set_self (by omega))
theorem GST.step {w3 : World} {u' : Value} {m : Nat} (h : GST w wk base vs cur L C n vo u q) (hn : n < cur.length) (ho : OwnL tTrio w3 base u' (marksT n 0 q ++ marksT n q m)) (hg : wk.grownBy w3 u.ownBlock)
    (hk : u'.ownBlock = u.ownBlock ∨ u'.ownBlock = some wk.heap.size ∧ ∀ k, k < wk.heap.size → w3.heap[k]? = wk.heap[k]?) : GST w w3 base vs cur L C n vo u' (q + m) := by
  have hl := h.gr.lots.len
  simp at hl
  have hu : (cur.set n u)[n]? = some u := List.getElem?_set_self hn
  have hc : (C.set n (marksT n 0 q))[n]? = some (marksT n 0 q) := List.getElem?_set_self (by omega)
  have hum : u ∈ cur.set n u := List.mem_of_getElem? hu
  refine ⟨?_, h.out.far trioV_Free hg (h.ap u hum), fun x hx => ?_, h.but.grown hg (fun k hk2 => ?_)⟩
  · have := h.gr.step h.but.size hu hc ho hg hk
    rwa [List.set_set, List.set_set, marksT_app] at this
  · obtain ⟨j, hj⟩ := List.mem_iff_getElem?.1 hx
    by_cases hjn : n = j
    · subst hjn
      rw [List.getElem?_set_self hn] at hj
      injection hj with hj
      subst hj
      exact (h.ap u hum).stepF h.out (hk.imp id (·.1))
    · rw [List.getElem?_set_ne hjn] at hj
      exact h.ap x (List.mem_of_getElem? (i := j) (by rw [List.getElem?_set_ne hjn]; exact hj))
  · have hs := h.gr.same
    simp at hs
    have hv : vs[n]? = some (vs[n]'(by omega)) := List.getElem?_eq_getElem (by omega)
    rcases h.gr.row n _ u hv hu with h3 | h3
    · exact .inl ⟨_, List.mem_of_getElem? hv, by rw [← h3, hk2]⟩
    · exact .inr (h3 k hk2)
theorem GST.push {w5 : World} {vo' : Value} (h : GST w wk base vs cur L C n vo u q) (hn : n < cur.length) (ho : OwnL tTrioV w5 w.heap.size vo' (cur.take n ++ [u])) (hg : wk.grownBy w5 vo.ownBlock) (hat : vo'.ownBlock = vo.ownBlock ∨ vo'.ownBlock = some wk.heap.size) :
    GrowT w w5 base vs (cur.set n u) L (C.set n (marksT n 0 q)) ∧ OwnL tTrioV w5 w.heap.size vo' ((cur.set n u).take (n + 1)) ∧ (∀ x ∈ cur.set n u, ApartV vo' x) ∧ But (InV vs) w w5 := by
  have hlt := h.out.lt
  refine ⟨h.gr.far h.but.size hg h.ap (fun k hk => (hlt k hk).1), ?_, fun x hx => ?_, h.but.grown hg (fun k hk => .inr (hlt k hk).1)⟩
  · have e : (cur.set n u).take (n + 1) = cur.take n ++ [u] := by
      rw [List.take_succ_eq_append_getElem (by simpa using hn)]
      simp [List.take_set_of_le]
    rw [e]
    exact ho
  · obtain ⟨j, hj⟩ := List.mem_iff_getElem?.1 hx
    have hjl := (List.getElem?_eq_some_iff.1 hj).1
    exact ((h.ap x hx).symm.stepF (h.gr.lots.own j x _ hj (List.getElem?_eq_getElem (by rw [← h.gr.lots.len]; exact hjl))) hat).symm
end
theorem infoTrioV : (Tryz.prog.info? 51).map (fun i => (i.zero, i.size, i.bytes)) = some (some (.slice none 0 0), 1, 24) := by kernel_rfl
end Go.Proofs.YtacemlbfifhllaaGreat
