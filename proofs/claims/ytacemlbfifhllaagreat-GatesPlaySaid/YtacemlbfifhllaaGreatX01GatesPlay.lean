/- Maps in memory as lists of keys with their values: what a look-up, a store, a delete and a new map come to. -/
import Derived.Maps.Own
import Derived.Maps.OwnOps
import Derived.Maps.OwnSet
import Derived.DeepKeys4
set_option linter.unusedVariables false
set_option linter.unusedSimpArgs false
namespace Go.Proofs.YtacemlbfifhllaaGreat
open Go.RowKit Go.Maps

/-- How keys of a type are told apart: 'ek' lays them down, 'ok': they are of their kind. -/
structure MK (P : Program) (t : TypeId) (κ : Type) where
  K : Keyed P t
  ek : κ → Value
  ok : κ → Prop
  key : ∀ k, ok k → ∃ l, keyOf P t (ek k) = some l
  inj : ∀ a b, ek a = ek b → a = b

section
variable {P : Program} {t : TypeId} {κ ν : Type} [DecidableEq κ] (M : MK P t κ) (ev : ν → Value)

/-- block b is a map that holds the list l (no key twice), in some order of birth -/
structure MapIs (w : World) (b : Nat) (l : List (κ × ν)) : Prop where
  ex : ∃ es clock, w.heap[b]? = some (.map es clock) ∧ es.toList.map (fun e => (e.key, e.val)) = l.map (fun x => (M.ek x.1, ev x.2)) ∧
    (∀ e ∈ es.toList, e.born < clock) ∧ (es.toList.map (·.born)).Nodup
  oks : ∀ x ∈ l, M.ok x.1
  once : (l.map (·.1)).Nodup

def look (l : List (κ × ν)) (k : κ) : Option ν := (l.find? (fun x => x.1 = k)).map (·.2)
def ins : List (κ × ν) → κ → ν → List (κ × ν)
  | [], k, v => [(k, v)]
  | x :: r, k, v => if x.1 = k then (k, v) :: r else x :: ins r k v
def del (l : List (κ × ν)) (k : κ) : List (κ × ν) := l.filter (fun x => decide (x.1 ≠ k))

variable {M ev}
theorem find_at {es : List MapEntry} : ∀ {l : List (κ × ν)}, es.map (fun e => (e.key, e.val)) = l.map (fun x => (M.ek x.1, ev x.2)) → ∀ (k : κ) {j : Nat} {e : MapEntry}, es[j]? = some e → e.key = M.ek k → (l.map (·.1)).Nodup →
    ∃ v, l[j]? = some (k, v) ∧ e.val = ev v ∧ look l k = some v := by
  intro l h k j e hj he hn
  have hl : j < l.length := by
    have h1 := congrArg List.length h
    simp at h1
    have := (List.getElem?_eq_some_iff.1 hj).1
    omega
  have h2 := congrArg (fun x => x[j]?) h
  simp only [List.getElem?_map, hj, List.getElem?_eq_getElem hl, Option.map_some, Option.some.injEq, Prod.mk.injEq] at h2
  have hk : l[j].1 = k := M.inj _ _ (h2.1.symm.trans he)
  refine ⟨l[j].2, ?_, h2.2, ?_⟩
  · rw [List.getElem?_eq_getElem hl, ← hk]
  · unfold look
    have : l.find? (fun x => decide (x.1 = k)) = some l[j] := by
      rw [List.find?_eq_some_iff_getElem]
      refine ⟨by simp [hk], j, hl, rfl, fun i hi => ?_⟩
      have hne := (List.pairwise_iff_getElem.1 hn) i j (by simp; omega) (by simpa using hl) hi
      simp only [List.getElem_map] at hne
      simp only [Bool.not_eq_true', decide_eq_false_iff_not]
      rw [← hk]
      exact hne
    rw [this]; rfl

theorem MapIs.findKey {w : World} {b : Nat} {l : List (κ × ν)} (h : MapIs M ev w b l) {k : κ} (hk : M.ok k) (W : World) :
    ∃ es clock, w.heap[b]? = some (.map es clock) ∧ es.toList.map (fun e => (e.key, e.val)) = l.map (fun x => (M.ek x.1, ev x.2)) ∧ (∀ e ∈ es.toList, e.born < clock) ∧ (es.toList.map (·.born)).Nodup ∧
      (((Instr.findKey t (M.ek k) es.toList).run P W = .ok none W ∧ look l k = none) ∨
        ∃ j v e, (Instr.findKey t (M.ek k) es.toList).run P W = .ok (some (j, ev v)) W ∧ es.toList[j]? = some e ∧ e.key = M.ek k ∧ l[j]? = some (k, v) ∧ look l k = some v) := by
  obtain ⟨es, clock, hb, hm, hc, hn⟩ := h.ex
  refine ⟨es, clock, hb, hm, hc, hn, ?_⟩
  obtain ⟨lx, hlx⟩ := M.key k hk
  have hkeys : ∀ e ∈ es.toList, ∃ l, keyOf P t e.key = some l := by
    intro e he
    have : (e.key, e.val) ∈ es.toList.map (fun e => (e.key, e.val)) := List.mem_map.2 ⟨e, he, rfl⟩
    rw [hm] at this
    obtain ⟨x, hx, hx2⟩ := List.mem_map.1 this
    obtain ⟨l0, hl0⟩ := M.key x.1 (h.oks x hx)
    exact ⟨l0, by rw [← (Prod.mk.inj hx2).1]; exact hl0⟩
  rcases M.K.find W hlx es.toList hkeys with ⟨h1, h2⟩ | ⟨j, e, h1, h2, h3⟩
  · refine .inl ⟨h1, ?_⟩
    unfold look
    rw [Option.map_eq_none_iff, List.find?_eq_none]
    intro x hx he
    simp only [decide_eq_true_eq] at he
    have : (M.ek x.1, ev x.2) ∈ es.toList.map (fun e => (e.key, e.val)) := by rw [hm]; exact List.mem_map.2 ⟨x, hx, rfl⟩
    obtain ⟨e, hee, hx2⟩ := List.mem_map.1 this
    exact h2 e hee ((Prod.mk.inj hx2).1.trans (by rw [he]))
  · obtain ⟨v, hv1, hv2, hv3⟩ := find_at hm k h2 h3 h.once
    exact .inr ⟨j, v, e, by rw [h1, hv2], h2, h3, hv1, hv3⟩

/-- a look-up without ok -/
theorem MapIs.lookup {T e : TypeId} {w : World} {b : Nat} {l : List (κ × ν)} (h : MapIs M ev w b l) (ht : P.underlying T = some (.map t e)) {k : κ} (hk : M.ok k) {z : Value} (hz : (zeroValue e).run P w = .ok z w) :
    (Instr.lookup T (.map (some b)) (M.ek k) false).run P w = .ok (((look l k).map ev).getD z) w := by
  obtain ⟨es, clock, hb, hm, hc, hn, hf⟩ := h.findKey hk w
  obtain ⟨lx, hlx⟩ := M.key k hk
  have hck := fun em => M.K.check w em hlx
  rcases hf with ⟨h1, h2⟩ | ⟨j, v, e', h1, h2, h3, h4, h5⟩
  · simp [Instr.lookup, run_underlying ht, getObj, Sem.run, hb, hck, h1, h2, hz, Result.andThen]
  · simp [Instr.lookup, run_underlying ht, getObj, Sem.run, hb, hck, h1, h5, Result.andThen]

theorem MapIs.lookup_ok {T e : TypeId} {w : World} {b : Nat} {l : List (κ × ν)} (h : MapIs M ev w b l) (ht : P.underlying T = some (.map t e)) {k : κ} (hk : M.ok k) {z : Value} (hz : (zeroValue e).run P w = .ok z w) :
    (Instr.lookup T (.map (some b)) (M.ek k) true).run P w = .ok (.tuple #[((look l k).map ev).getD z, .bool (look l k).isSome]) w := by
  obtain ⟨es, clock, hb, hm, hc, hn, hf⟩ := h.findKey hk w
  obtain ⟨lx, hlx⟩ := M.key k hk
  have hck := fun em => M.K.check w em hlx
  rcases hf with ⟨h1, h2⟩ | ⟨j, v, e', h1, h2, h3, h4, h5⟩
  · simp [Instr.lookup, run_underlying ht, getObj, Sem.run, hb, hck, h1, h2, hz, Result.andThen]
  · simp [Instr.lookup, run_underlying ht, getObj, Sem.run, hb, hck, h1, h5, Result.andThen]

omit [DecidableEq κ] in
theorem lookup_nil {T e : TypeId} (M : MK P t κ) {w : World} (ht : P.underlying T = some (.map t e)) {k : κ} (hk : M.ok k) {z : Value} (hz : (zeroValue e).run P w = .ok z w) (c : Bool) :
    (Instr.lookup T (.map none) (M.ek k) c).run P w = .ok (if c then .tuple #[z, .bool false] else z) w := by
  obtain ⟨lx, hlx⟩ := M.key k hk
  have hck := fun em => M.K.check w em hlx
  have hf : (Instr.findKey t (M.ek k) []).run P w = .ok none w := by
    rcases M.K.find w hlx [] (by simp) with ⟨h1, _⟩ | ⟨j, e, _, h2, _⟩
    · exact h1
    · simp at h2
  simp [Instr.lookup, run_underlying ht, hck, hf, hz, Result.andThen]

theorem ins_new : ∀ (l : List (κ × ν)) (k : κ) (v : ν), look l k = none → ins l k v = l ++ [(k, v)]
  | [], _, _, _ => rfl
  | x :: r, k, v, h => by
    by_cases hx : x.1 = k
    · simp [look, List.find?_cons, hx] at h
    · have h' : look r k = none := by simpa [look, List.find?_cons, hx] using h
      simp [ins, hx, ins_new r k v h']
theorem ins_old : ∀ (l : List (κ × ν)) (k : κ) (v v0 : ν) (j : Nat), l[j]? = some (k, v0) → (l.map (·.1)).Nodup → ins l k v = l.set j (k, v)
  | [], _, _, _, _, h, _ => by simp at h
  | x :: r, k, v, v0, 0, h, _ => by
    simp at h
    simp [ins, h]
  | x :: r, k, v, v0, j + 1, h, hn => by
    simp at h
    simp only [List.map_cons, List.nodup_cons] at hn
    have hx : x.1 ≠ k := fun e => hn.1 (by rw [e]; exact List.mem_map.2 ⟨(k, v0), List.mem_of_getElem? h, rfl⟩)
    simp [ins, hx, ins_old r k v v0 j h hn.2]
theorem ins_keys (l : List (κ × ν)) (k : κ) (v : ν) : (ins l k v).map (·.1) = if k ∈ l.map (·.1) then l.map (·.1) else l.map (·.1) ++ [k] := by
  induction l with
  | nil => simp [ins]
  | cons x r ih =>
    by_cases hx : x.1 = k
    · simp [ins, hx]
    · have hx' : ¬ k = x.1 := fun e => hx e.symm
      simp only [ins, hx, if_false, List.map_cons, ih, List.mem_cons, hx', false_or]
      split <;> simp
theorem ins_once {l : List (κ × ν)} (h : (l.map (·.1)).Nodup) (k : κ) (v : ν) : ((ins l k v).map (·.1)).Nodup := by
  rw [ins_keys]
  split
  · exact h
  · rename_i hk
    exact List.nodup_append.2 ⟨h, by simp, fun a ha b hb => by simp at hb; rintro rfl; subst hb; exact hk ha⟩
theorem mem_ins {l : List (κ × ν)} {k : κ} {v : ν} {x : κ × ν} (h : x ∈ ins l k v) : x = (k, v) ∨ x ∈ l := by
  induction l with
  | nil => simp [ins] at h; exact .inl h
  | cons y r ih =>
    by_cases hy : y.1 = k
    · simp [ins, hy] at h
      rcases h with h | h
      · exact .inl h
      · exact .inr (List.mem_cons_of_mem _ h)
    · simp [ins, hy] at h
      rcases h with h | h
      · exact .inr (by rw [h]; exact List.mem_cons_self)
      · rcases ih h with h | h
        · exact .inl h
        · exact .inr (List.mem_cons_of_mem _ h)

theorem set_other (w : World) (b : Nat) (o : Obj) (i : Nat) (h : i ≠ b) : ({ w with heap := w.heap.setIfInBounds b o } : World).heap[i]? = w.heap[i]? := by
  show (w.heap.setIfInBounds b o)[i]? = _
  rw [Array.getElem?_setIfInBounds, if_neg (fun e => h e.symm)]
theorem set_same (w : World) (b : Nat) (o : Obj) (h : b < w.heap.size) : ({ w with heap := w.heap.setIfInBounds b o } : World).heap[b]? = some o := by
  show (w.heap.setIfInBounds b o)[b]? = _
  rw [Array.getElem?_setIfInBounds, if_pos rfl, if_pos h]

/-- only block b has turned, and no block has come -/
structure OnlyB (w w' : World) (b : Nat) : Prop where
  grown : w.grownBy w' (some b)
  size : w'.heap.size = w.heap.size
theorem OnlyB.set (w : World) (b : Nat) (o : Obj) : OnlyB w { w with heap := w.heap.setIfInBounds b o } b :=
  ⟨⟨rfl, rfl, rfl, by simp, fun i hi hne => set_other w b o i (fun e => hne (by rw [e]))⟩, by simp⟩

theorem MapIs.update {T e : TypeId} {w : World} {b : Nat} {l : List (κ × ν)} (h : MapIs M ev w b l) (ht : P.underlying T = some (.map t e)) {k : κ} (hk : M.ok k) (v : ν) :
    ∃ w', (Instr.mapUpdate T (.map (some b)) (M.ek k) (ev v)).run P w = .ok () w' ∧ MapIs M ev w' b (ins l k v) ∧ OnlyB w w' b := by
  obtain ⟨es, clock, hb, hm, hc, hn, hf⟩ := h.findKey hk w
  obtain ⟨lx, hlx⟩ := M.key k hk
  have hck := M.K.check w false hlx
  have hst := M.K.stays w hlx
  have hlt : b < w.heap.size := (Array.getElem?_eq_some_iff.1 hb).1
  have hoks : ∀ x ∈ ins l k v, M.ok x.1 := fun x hx => by
    rcases mem_ins hx with rfl | hx
    · exact hk
    · exact h.oks x hx
  rcases hf with ⟨h1, h2⟩ | ⟨j, v0, e', h1, h2, h3, h4, h5⟩
  · refine ⟨{ w with heap := w.heap.setIfInBounds b (.map (es.push ⟨M.ek k, ev v, clock⟩) (clock + 1)) }, ?_, ⟨⟨es.push ⟨M.ek k, ev v, clock⟩, clock + 1, set_same _ _ _ hlt, ?_, ?_, ?_⟩, hoks, ins_once h.once k v⟩, OnlyB.set _ _ _⟩
    · simp [Instr.mapUpdate, run_underlying ht, getObj, setObj, Sem.run, hb, hck, h1, Result.andThen]
    · rw [ins_new l k v h2]
      simp [hm]
    · intro x hx
      simp at hx
      rcases hx with hx | rfl
      · have := hc x (by simpa using hx); omega
      · simp
    · simp only [Array.toList_push, List.map_append, List.map_cons, List.map_nil]
      exact List.nodup_append.2 ⟨hn, by simp, fun a ha c hc' => by
        simp at hc'
        obtain ⟨x, hx, rfl⟩ := List.mem_map.1 ha
        have := hc x hx
        omega⟩
  · have hj : es[j]? = some e' := by simpa using h2
    refine ⟨{ w with heap := w.heap.setIfInBounds b (.map (es.modify j fun e => { e with key := M.ek k, val := ev v }) clock) }, ?_, ⟨⟨es.modify j fun e => { e with key := M.ek k, val := ev v }, clock, set_same _ _ _ hlt, ?_, ?_, ?_⟩, hoks, ins_once h.once k v⟩, OnlyB.set _ _ _⟩
    · simp [Instr.mapUpdate, run_underlying ht, getObj, setObj, Sem.run, hb, hck, h1, hj, h3, hst, Result.andThen]
    · rw [ins_old l k v v0 j h4 h.once]
      apply List.ext_getElem?
      intro i
      have hmi := congrArg (fun x => x[i]?) hm
      simp only [List.getElem?_map] at hmi
      simp only [List.getElem?_map, Array.getElem?_toList, Array.getElem?_modify, List.getElem?_set]
      by_cases hij : j = i
      · subst hij
        have hjl : j < l.length := (List.getElem?_eq_some_iff.1 h4).1
        simp [hj, hjl]
      · simp only [hij, if_false]
        simpa using hmi
    · intro x hx
      simp at hx
      obtain ⟨i, hi⟩ := List.mem_iff_getElem?.1 (show x ∈ (es.modify j fun e => { e with key := M.ek k, val := ev v }).toList by simpa using hx)
      simp only [Array.getElem?_toList, Array.getElem?_modify] at hi
      split at hi
      · cases hq : es[i]? with
        | none => simp [hq] at hi
        | some y =>
          simp [hq] at hi
          subst hi
          exact hc y (List.mem_of_getElem? (by simpa using hq))
      · exact hc x (List.mem_of_getElem? (by simpa using hi))
    · have : (es.modify j fun e => { e with key := M.ek k, val := ev v }).toList.map (·.born) = es.toList.map (·.born) := by
        apply List.ext_getElem?
        intro i
        simp only [List.getElem?_map, Array.getElem?_toList, Array.getElem?_modify]
        split <;> cases es[i]? <;> simp
      rw [this]
      exact hn

omit [DecidableEq κ] in
theorem map_erase {α β : Type} (f : α → β) : ∀ (l : List α) (j : Nat), (l.eraseIdx j).map f = (l.map f).eraseIdx j
  | [], _ => by simp
  | _ :: _, 0 => by simp
  | x :: r, j + 1 => by simp [map_erase f r j]
theorem del_none {l : List (κ × ν)} {k : κ} (h : look l k = none) : del l k = l := by
  unfold del
  rw [List.filter_eq_self]
  intro x hx
  have := h
  unfold look at this
  rw [Option.map_eq_none_iff, List.find?_eq_none] at this
  have := this x hx
  simpa using this
theorem del_some : ∀ {l : List (κ × ν)} {k : κ} {v : ν} {j : Nat}, l[j]? = some (k, v) → (l.map (·.1)).Nodup → del l k = l.eraseIdx j
  | [], _, _, _, h, _ => by simp at h
  | x :: r, k, v, 0, h, hn => by
    simp at h
    subst h
    simp only [List.map_cons, List.nodup_cons] at hn
    simp only [del, List.filter_cons, List.eraseIdx_zero, List.tail_cons]
    simp
    intro a b hab e
    subst e
    exact hn.1 (List.mem_map.2 ⟨_, hab, rfl⟩)
  | x :: r, k, v, j + 1, h, hn => by
    simp at h
    simp only [List.map_cons, List.nodup_cons] at hn
    have hx : x.1 ≠ k := fun e => hn.1 (by rw [e]; exact List.mem_map.2 ⟨(k, v), List.mem_of_getElem? h, rfl⟩)
    have ih := del_some h hn.2
    unfold del at ih
    simp [del, List.filter_cons, hx]
    simpa using ih

theorem MapIs.delete {T e ty : TypeId} {w : World} {b : Nat} {l : List (κ × ν)} (h : MapIs M ev w b l) (ht : P.underlying T = some (.map t e)) {k : κ} (hk : M.ok k) :
    ∃ w', (Builtin.delete_ #[T, t] ty #[.map (some b), M.ek k]).run P w = .ok (.tuple #[]) w' ∧ MapIs M ev w' b (del l k) ∧ OnlyB w w' b := by
  obtain ⟨es, clock, hb, hm, hc, hn, hf⟩ := h.findKey hk w
  obtain ⟨lx, hlx⟩ := M.key k hk
  have hck := fun em => M.K.check w em hlx
  have hlt : b < w.heap.size := (Array.getElem?_eq_some_iff.1 hb).1
  have hoks : ∀ x ∈ del l k, M.ok x.1 := fun x hx => h.oks x (List.mem_filter.1 hx).1
  have honce : ((del l k).map (·.1)).Nodup := (h.once).sublist (List.filter_sublist.map _)
  rcases hf with ⟨h1, h2⟩ | ⟨j, v0, e', h1, h2, h3, h4, h5⟩
  · refine ⟨{ w with heap := w.heap.setIfInBounds b (.map es clock) }, ?_, ⟨⟨es, clock, set_same _ _ _ hlt, ?_, hc, hn⟩, hoks, honce⟩, OnlyB.set _ _ _⟩
    · simp [Builtin.delete_, run_underlying ht, getObj, setObj, Sem.run, hb, hck, h1, Result.andThen]
    · rw [del_none h2]; exact hm
  · have hjl : j < es.size := by have := (List.getElem?_eq_some_iff.1 h2).1; simpa using this
    refine ⟨{ w with heap := w.heap.setIfInBounds b (.map (es.eraseIdxIfInBounds j) clock) }, ?_, ⟨⟨es.eraseIdxIfInBounds j, clock, set_same _ _ _ hlt, ?_, ?_, ?_⟩, hoks, honce⟩, OnlyB.set _ _ _⟩
    · simp [Builtin.delete_, run_underlying ht, getObj, setObj, Sem.run, hb, hck, h1, Result.andThen]
    · rw [del_some h4 h.once]
      simp only [Array.eraseIdxIfInBounds, hjl, dif_pos, Array.toList_eraseIdx]
      rw [map_erase, hm, map_erase]
    · intro x hx
      simp only [Array.eraseIdxIfInBounds, hjl, dif_pos, Array.toList_eraseIdx] at hx
      exact hc x (List.mem_of_mem_eraseIdx hx)
    · simp only [Array.eraseIdxIfInBounds, hjl, dif_pos, Array.toList_eraseIdx]
      exact hn.sublist ((List.eraseIdx_sublist _ _).map _)

omit [DecidableEq κ] in
theorem MapIs.new (M : MK P t κ) (ev : ν → Value) (w : World) : MapIs M ev (w.alloc (.map #[] 0)) w.heap.size [] :=
  ⟨⟨#[], 0, heap_alloc_new w _, by simp, by simp, by simp⟩, by simp, by simp⟩

omit [DecidableEq κ] in
theorem MapIs.lt {w : World} {b : Nat} {l : List (κ × ν)} (h : MapIs M ev w b l) : b < w.heap.size := by
  obtain ⟨es, clock, hb, _⟩ := h.ex
  exact (Array.getElem?_eq_some_iff.1 hb).1
omit [DecidableEq κ] in
theorem MapIs.keep {w w' : World} {b : Nat} {l : List (κ × ν)} (h : MapIs M ev w b l) (hb : w'.heap[b]? = w.heap[b]?) : MapIs M ev w' b l := by
  obtain ⟨es, clock, h1, h2⟩ := h.ex
  exact ⟨⟨es, clock, hb.trans h1, h2⟩, h.oks, h.once⟩
omit [DecidableEq κ] in
theorem MapIs.len {T : TypeId} {w : World} {b : Nat} {l : List (κ × ν)} (h : MapIs M ev w b l) : ∃ es clock, w.heap[b]? = some (.map es clock) ∧ es.size = l.length := by
  obtain ⟨es, clock, h1, h2, _⟩ := h.ex
  refine ⟨es, clock, h1, ?_⟩
  have := congrArg List.length h2
  simpa using this

omit [DecidableEq κ] in
theorem dummyMp : True := trivial
end
section
variable {P : Program} {t : TypeId} {κ ν : Type} [DecidableEq κ] {M : MK P t κ} {ev : ν → Value} {ops : Array Oper} {rest : List Oper} {o : Oper} {a : Act} {Q : Exit → Act → World → Prop} {w : World}
theorem wp_update (hg : o.guard = none) (m x v : Operand) (T : TypeId) (hop : o.op = Op.mapUpdate T m x v) (e : TypeId) (ht : P.underlying T = some (.map t e)) (b : Nat) (l : List (κ × ν)) (k : κ) (y : ν)
    (hm : a.eval m = .map (some b)) (hx : a.eval x = M.ek k) (hv : a.eval v = ev y) (h : MapIs M ev w b l) (hk : M.ok k)
    (hK : ∀ w', MapIs M ev w' b (ins l k y) → OnlyB w w' b → wpList P ops Q rest (a.put o.dst undef) w') : wpList P ops Q (o :: rest) a w := by
  refine wpList_plain hg fun K' hK' => ?_
  obtain ⟨w', hrun, r1, r2⟩ := h.update ht hk y
  unfold Oper.wp
  simp [execOp, hop, hm, hx, hv, hrun, Result.andThen]
  exact hK' _ _ (hK w' r1 r2)
theorem wp_delete (hg : o.guard = none) (m x : Operand) (T : TypeId) (hop : o.op = Op.call { callee := Callee.builtin Builtin.delete, args := #[m, x], argTypes := #[T, t] }) (e : TypeId) (ht : P.underlying T = some (.map t e)) (b : Nat) (l : List (κ × ν)) (k : κ)
    (hm : a.eval m = .map (some b)) (hx : a.eval x = M.ek k) (h : MapIs M ev w b l) (hk : M.ok k)
    (hK : ∀ w', MapIs M ev w' b (del l k) → OnlyB w w' b → wpList P ops Q rest (a.put o.dst (.tuple #[])) w') : wpList P ops Q (o :: rest) a w := by
  refine wpList_plain hg fun K' hK' => ?_
  obtain ⟨w', hrun, r1, r2⟩ := h.delete (ty := o.type) ht hk
  unfold Oper.wp
  simp [execOp, hop, resolve, invoke, builtin, hm, hx, hrun, Result.andThen]
  exact hK' _ _ (hK w' r1 r2)
omit [DecidableEq κ] in
theorem delete_nil {T e ty : TypeId} (M : MK P t κ) {w : World} (ht : P.underlying T = some (.map t e)) {k : κ} (hk : M.ok k) :
    (Builtin.delete_ #[T, t] ty #[.map none, M.ek k]).run P w = .ok (.tuple #[]) w := by
  obtain ⟨lx, hlx⟩ := M.key k hk
  have hck := fun em => M.K.check w em hlx
  simp [Builtin.delete_, run_underlying ht, hck, Result.andThen]

omit [DecidableEq κ] in
theorem wp_delete_nil (M : MK P t κ) (hg : o.guard = none) (m x : Operand) (T : TypeId) (hop : o.op = Op.call { callee := Callee.builtin Builtin.delete, args := #[m, x], argTypes := #[T, t] }) (e : TypeId) (ht : P.underlying T = some (.map t e)) (k : κ)
    (hm : a.eval m = .map none) (hx : a.eval x = M.ek k) (hk : M.ok k) (hK : wpList P ops Q rest (a.put o.dst (.tuple #[])) w) : wpList P ops Q (o :: rest) a w := by
  refine wpList_plain hg fun K' hK' => ?_
  have hrun := delete_nil (ty := o.type) M (w := w) ht hk
  unfold Oper.wp
  simp [execOp, hop, resolve, invoke, builtin, hm, hx, hrun, Result.andThen]
  exact hK' _ _ hK
end
end Go.Proofs.YtacemlbfifhllaaGreat
