/- A map that holds a list (MapIs), ranged over: the keys come, each once, in some order. -/
import Derived.Test.YtacemlbfifhllaaGreatX01GatesPlay
import Derived.Maps.Range
import Derived.Sort.MapsRangeIn
import Derived.RangeFuncSeq
import Derived.RangeFuncGives
set_option linter.unusedVariables false
set_option linter.unusedSimpArgs false
namespace Go.Proofs.YtacemlbfifhllaaGreat
open Go.RowKit Go.Maps Go.ChangeMaps Go.MapKept Go.WideShapes

theorem nd_of_map {α β : Type} (f : α → β) {l : List α} (h : (l.map f).Nodup) : l.Nodup := by
  rw [List.Nodup, List.pairwise_map] at h
  exact List.Pairwise.imp (fun hne e => hne (congrArg f e)) h
section
variable {P : Program} {t : TypeId} {κ ν : Type} [DecidableEq κ] {M : MK P t κ} {ev : ν → Value}

variable (M ev) in
/-- 'for k := range m' under way: the map holds l; ss have come -/
def Rng (w : World) (b r : Nat) (l : List (κ × ν)) (ss : List κ) : Prop :=
  MapIs M ev w b l ∧ ∃ (es : Array MapEntry) (clock since : Nat) (seen : Array Nat) (c0 : Nat) (vs : List MapEntry), w.heap[b]? = some (.map es clock) ∧ es.toList.map (fun e => (e.key, e.val)) = l.map (fun x => (M.ek x.1, ev x.2)) ∧ (es.toList.map (·.born)).Nodup ∧
    w.heap[r]? = some (.mapIter (some b) since seen c0) ∧ (∀ x ∈ es.toList, x.born < since) ∧ since ≤ c0 ∧ since ≤ clock ∧
    seen.toList = vs.map (·.born) ∧ (∀ e ∈ vs, e ∈ es.toList) ∧ (vs.map (·.born)).Nodup ∧ ss.map M.ek = vs.map (·.key)

omit [DecidableEq κ] in
theorem MapIs.range {T e : TypeId} {w : World} {b : Nat} {l : List (κ × ν)} (h : MapIs M ev w b l) (ht : P.underlying T = some (.map t e)) :
    ∃ w', (Instr.range T (.map (some b))).run P w = .ok (.pointer (some ⟨w.heap.size, 0, none⟩)) w' ∧ Rng M ev w' b w.heap.size l [] ∧ w.grownBy w' none ∧ w'.heap.size = w.heap.size + 1 := by
  have hlt := h.lt
  obtain ⟨es, clock, hb, hm, hc, hn⟩ := h.ex
  have hbk := ((MapKept.heap_alloc w (.mapIter (some b) clock #[] clock)).2 b hlt)
  exact ⟨_, run_range_map w T t e b es clock ht hb, ⟨h.keep hbk, es, clock, clock, #[], clock, [], hbk.trans hb, hm, hn, (MapKept.heap_alloc w _).1, hc, Nat.le_refl _, Nat.le_refl _, rfl, by simp, by simp, rfl⟩, World.grownBy_alloc w _ none, by simp⟩

omit [DecidableEq κ] in
theorem Rng.ne {w : World} {b r : Nat} {l : List (κ × ν)} {ss : List κ} (h : Rng M ev w b r l ss) : r ≠ b := by
  obtain ⟨_, es, clock, since, seen, c0, vs, hb, _, _, hr, _⟩ := h
  intro e
  rw [e, hb] at hr
  cases hr

omit [DecidableEq κ] in
theorem Rng.iter_walk {w : World} {b r : Nat} {l : List (κ × ν)} {ss : List κ} (h : Rng M ev w b r l ss) : ∃ o : Obj, w.heap[r]? = some o ∧ o.isWalk = true := by
  obtain ⟨_, es, clock, since, seen, c0, vs, hb, _, _, hr, _⟩ := h
  exact ⟨_, hr, rfl⟩

omit [DecidableEq κ] in
theorem Rng.of_walks {w w' : World} {b r : Nat} {l : List (κ × ν)} {ss : List κ} (h : Rng M ev w b r l ss) (hk : KeepsWalks w w') : Rng M ev w' b r l ss := by
  obtain ⟨hm, es, clock, since, seen, c0, vs, hb, h1, h2, hr, rest⟩ := h
  have hb' := hk.same b _ hb rfl
  exact ⟨hm.keep (hb'.trans hb.symm), es, clock, since, seen, c0, vs, hb', h1, h2, hk.same r _ hr rfl, rest⟩

omit [DecidableEq κ] in
theorem rangeLeft_walks {w w' : World} {b r : Nat} {l : List (κ × ν)} {ss : List κ} (hk : KeepsWalks w w') (h : Rng M ev w b r l ss) : w'.rangeLeft b r = w.rangeLeft b r := by
  obtain ⟨hm, es, clock, since, seen, c0, vs, hb, h1, h2, hr, rest⟩ := h
  simp only [World.rangeLeft, hk.same b _ hb rfl, hk.same r _ hr rfl, hb, hr]
omit [DecidableEq κ] in
theorem Rng.len {w : World} {b r : Nat} {l : List (κ × ν)} {ss : List κ} (h : Rng M ev w b r l ss) : ss.length + w.rangeLeft b r ≤ l.length := by
  obtain ⟨_, es, clock, since, seen, c0, vs, hb, hm, hn, hr, _, _, _, hs, hv, hvn, hss⟩ := h
  simp only [World.rangeLeft, hb, hr]
  have e1 : ss.length = vs.length := by simpa using congrArg List.length hss
  have e2 : l.length = es.toList.length := by simpa using (congrArg List.length hm).symm
  rw [e1, e2]
  have hvs : vs.Nodup := nd_of_map _ hvn
  have hen : es.toList.Nodup := nd_of_map _ hn
  have e3 : (leftOf es seen).size = (es.toList.filter fun e => !seen.contains e.born).length := by
    unfold leftOf
    rw [← Array.toList_filter, Array.length_toList]
  rw [e3]
  have hnd : (vs ++ es.toList.filter fun e => !seen.contains e.born).Nodup := by
    refine List.nodup_append.2 ⟨hvs, hen.sublist List.filter_sublist, fun a ha c hc e => ?_⟩
    subst e
    have h3 := (List.mem_filter.1 hc).2
    have h4 : a.born ∈ seen.toList := by rw [hs]; exact List.mem_map.2 ⟨a, ha, rfl⟩
    simp at h3
    exact h3 (by simpa using h4)
  have := hnd.length_le_of_subset (l₂ := es.toList) (fun x hx => by
    rcases List.mem_append.1 hx with h | h
    · exact hv x h
    · exact (List.mem_filter.1 h).1)
  simpa using this

omit [DecidableEq κ] in
theorem perm_of_map (M : MK P t κ) {ss ks : List κ} (hk : ks.Nodup) (h : (ss.map M.ek).Perm (ks.map M.ek)) : ss.Perm ks := by
  have hkn : (ks.map M.ek).Nodup := by
    rw [List.Nodup, List.pairwise_map]
    exact List.Pairwise.imp (fun hne e => hne (M.inj _ _ e)) hk
  have hsn : ss.Nodup := nd_of_map _ ((h.nodup_iff).2 hkn)
  refine (List.perm_ext_iff_of_nodup hsn hk).2 fun x => ?_
  have m : ∀ (q : List κ), x ∈ q ↔ M.ek x ∈ q.map M.ek := fun q => ⟨fun hx => List.mem_map.2 ⟨x, hx, rfl⟩, fun hx => by
    obtain ⟨y, hy, e⟩ := List.mem_map.1 hx
    rwa [← M.inj _ _ e]⟩
  rw [m, m, h.mem_iff]

omit [DecidableEq κ] in
theorem Rng.next {w : World} {b r : Nat} {l : List (κ × ν)} {ss : List κ} (h : Rng M ev w b r l ss) (ty : TypeId) :
    (ss.Perm (l.map (·.1)) ∧ (Instr.next (.pointer (some ⟨r, 0, none⟩)) false ty).run P w = .ok (.tuple #[.bool false]) w) ∨
    ∃ k v w', (k, v) ∈ l ∧ (Instr.next (.pointer (some ⟨r, 0, none⟩)) false ty).run P w = .ok (.tuple #[.bool true, M.ek k, ev v]) w' ∧
      Rng M ev w' b r l (ss ++ [k]) ∧ w'.rangeLeft b r < w.rangeLeft b r ∧ w.grownBy w' (some r) ∧ w'.heap.size = w.heap.size ∧ (Instr.entry (.pointer (some ⟨r, 0, none⟩))).run P w' = .ok (.tuple #[M.ek k, ev v]) w' := by
  have hne := h.ne
  obtain ⟨hM, es, clock, since, seen, c0, vs, hb, hm, hn, hr, hold, hsc, hsk, hs, hv, hvn, hss⟩ := h
  rcases run_next_at (P := P) w ty r b since c0 seen es clock hr hb hold hsc with ⟨h0, hrun⟩ | ⟨e, he, w1, hal, hrun⟩
  · refine Or.inl ⟨perm_of_map M hM.once ?_, hrun⟩
    have hall := all_seen es seen h0
    have hp : vs.Perm es.toList := by
      refine (List.perm_ext_iff_of_nodup (nd_of_map _ hvn) (nd_of_map _ hn)).2 fun x => ⟨hv x, fun hx => ?_⟩
      have h1 := hall x hx
      have h2 : x.born ∈ seen.toList := by simpa using h1
      rw [hs] at h2
      obtain ⟨y, hy, hyb⟩ := List.mem_map.1 h2
      rwa [← born_inj hn (hv y hy) hx hyb]
    rw [hss]
    have h3 := congrArg (List.map (·.1)) hm
    simp only [List.map_map] at h3
    have h4 : es.toList.map (·.key) = (l.map (·.1)).map M.ek := by simpa [Function.comp_def] using h3
    rw [← h4]
    exact hp.map _
  · obtain ⟨hem, hes⟩ := mem_left he
    have hx : (e.key, e.val) ∈ l.map (fun x => (M.ek x.1, ev x.2)) := by rw [← hm]; exact List.mem_map.2 ⟨e, hem, rfl⟩
    obtain ⟨⟨k, v⟩, hkv, hx2⟩ := List.mem_map.1 hx
    obtain ⟨hk2, hv2⟩ := Prod.mk.inj hx2
    simp only at hk2 hv2
    have hr1 : w1.heap[r]? = some (.mapIter (some b) since seen c0) := by rcases hal with rfl | rfl <;> exact hr
    have hb1 : w1.heap[b]? = some (.map es clock) := by rcases hal with rfl | rfl <;> exact hb
    have hset := heap_set (o' := .mapIter (some b) since (seen.push e.born) clock) hr1
    have hb' : (setBlock w1 r (.mapIter (some b) since (seen.push e.born) clock)).heap[b]? = some (.map es clock) := (hset.2 b (fun e1 => hne e1.symm)).trans hb1
    refine Or.inr ⟨k, v, _, hkv, by rw [hrun, ← hk2, ← hv2], ⟨hM.keep (hb'.trans hb.symm), es, clock, since, seen.push e.born, clock, vs ++ [e], hb', hm, hn, hset.1, hold, hsk, hsk, ?_, ?_, ?_, ?_⟩, ?_, ?_, ?_,
      by rw [hk2, hv2]; exact run_entry_at _ r b since seen es clock e hset.1 hb' hem hn⟩
    · simp [hs]
    · intro x hx
      rcases List.mem_append.1 hx with h | h
      · exact hv x h
      · simp at h; rw [h]; exact hem
    · rw [List.map_append]
      refine List.nodup_append.2 ⟨hvn, by simp, fun a ha c hc e1 => ?_⟩
      simp at hc
      rw [hc] at e1
      rw [e1, ← hs] at ha
      have : seen.contains e.born = true := by simpa using ha
      rw [hes] at this
      cases this
    · rw [List.map_append, List.map_append, hss]
      simp [hk2]
    · have hsr : (setBlock w1 r (.mapIter (some b) since (seen.push e.born) clock)).heap[r]? = some (.mapIter (some b) since (seen.push e.born) clock) := hset.1
      simp only [World.rangeLeft, hsr, hb', hb, hr]
      exact left_shrinks es seen e he
    · rcases hal with rfl | rfl <;> exact ⟨rfl, rfl, rfl, by simp [setBlock], fun i _ hi => hset.2 i (fun e1 => hi (by rw [e1]))⟩
    · rcases hal with rfl | rfl <;> simp [setBlock]
end
section
variable {F : Fence} {n : Nat} {P : Program} {t : TypeId} {κ ν : Type} {M : MK P t κ} {ev : ν → Value} {ops : Array Oper} {rest : List Oper} {o : Oper} {a : Act} {Q : Exit → Act → World → Prop} {w : World}
theorem wpIn_range (hg : o.guard = none) (m : Operand) (T : TypeId) (hop : o.op = Op.range T m) (e : TypeId) (ht : P.underlying T = some (.map t e)) (b : Nat) (l : List (κ × ν)) (hm : a.eval m = .map (some b)) (h : MapIs M ev w b l)
    (hK : ∀ w', Rng M ev w' b w.heap.size l [] → w.grownBy w' none → w'.heap.size = w.heap.size + 1 → wpListIn F n P ops Q rest (a.put o.dst (.pointer (some ⟨w.heap.size, 0, none⟩))) w') :
    wpListIn F n P ops Q (o :: rest) a w := by
  refine wpListIn_plain hg fun K' hK' => ?_
  obtain ⟨w', hrun, r1, r2, r3⟩ := h.range ht
  unfold Oper.wpIn
  refine ⟨?_, ?_⟩
  · simp [Oper.about, hop]
  · rw [Oper.semAt_plain F _ _ (by rw [hop]; intro c hc'; cases hc')]
    simp [execOp, hop, hm, hrun, Result.andThen]
    exact hK' _ _ (hK w' r1 r2 r3)
theorem wpIn_next (hg : o.guard = none) (it : Operand) (hop : o.op = Op.next it false) (b r : Nat) (l : List (κ × ν)) (ss : List κ) (hit : a.eval it = .pointer (some ⟨r, 0, none⟩)) (h : Rng M ev w b r l ss)
    (hDone : ss.Perm (l.map (·.1)) → wpListIn F n P ops Q rest (a.put o.dst (.tuple #[.bool false])) w)
    (hMore : ∀ k v w', (k, v) ∈ l → Rng M ev w' b r l (ss ++ [k]) → w'.rangeLeft b r < w.rangeLeft b r → w.grownBy w' (some r) → w'.heap.size = w.heap.size →
      (Instr.entry (.pointer (some ⟨r, 0, none⟩))).run P w' = .ok (.tuple #[M.ek k, ev v]) w' → wpListIn F n P ops Q rest (a.put o.dst (.tuple #[.bool true, M.ek k, ev v])) w') :
    wpListIn F n P ops Q (o :: rest) a w := by
  refine wpListIn_plain hg fun K' hK' => ?_
  unfold Oper.wpIn
  refine ⟨by simp [Oper.about, hop], ?_⟩
  rw [Oper.semAt_plain F _ _ (by rw [hop]; intro c hc'; cases hc')]
  rcases h.next o.type with ⟨h0, hrun⟩ | ⟨k, v, w', hkv, hrun, hrg, hlt, hgr, hsz, hen⟩
  · simp [execOp, hop, hit, hrun, Result.andThen]
    exact hK' _ _ (hDone h0)
  · simp [execOp, hop, hit, hrun, Result.andThen]
    exact hK' _ _ (hMore k v w' hkv hrg hlt hgr hsz hen)
end
end Go.Proofs.YtacemlbfifhllaaGreat
