/- Frames: of what was there only some blocks may have turned. -/
import Derived.Test.YtbgkladgeijgdaaGreatX02GroupOne
import Derived.Test.YtbgkladgeijgdaaGreatX01GroupOne
import Derived.Maps.Range
import Derived.Sort.MapsRangeIn
import Derived.RangeFuncSeq
import Derived.RangeFuncGives
import Derived.Test.YtbgkladgeijgdaaGreatX03GroupOne
set_option linter.unusedVariables false
set_option linter.unusedSimpArgs false
namespace Go.Proofs.YtbgkladgeijgdaaGreat
open Go.RowKit Go.Maps

/-- of what was there only the blocks of F may have turned -/
structure But (F : Nat → Prop) (w w' : World) : Prop where
  os : w'.os = w.os
  tape : w'.tape = w.tape
  output : w'.output = w.output
  size : w.heap.size ≤ w'.heap.size
  block : ∀ k, k < w.heap.size → ¬ F k → w'.heap[k]? = w.heap[k]?
section
variable {F G : Nat → Prop} {w w1 w2 : World}
theorem But.refl (F : Nat → Prop) (w : World) : But F w w := ⟨rfl, rfl, rfl, Nat.le_refl _, fun _ _ _ => rfl⟩
theorem But.trans (h : But F w w1) (k : But F w1 w2) : But F w w2 :=
  ⟨k.os.trans h.os, k.tape.trans h.tape, k.output.trans h.output, Nat.le_trans h.size k.size, fun i hi hf => (k.block i (Nat.lt_of_lt_of_le hi h.size) hf).trans (h.block i hi hf)⟩
theorem But.mono (h : But F w w1) (hi : ∀ k, k < w.heap.size → F k → G k) : But G w w1 := ⟨h.os, h.tape, h.output, h.size, fun k hk hg => h.block k hk (fun hf => hg (hi k hk hf))⟩
theorem But.of_below (h : Below w.heap.size w w1) (F : Nat → Prop) : But F w w1 := ⟨h.os, h.tape, h.output, h.size, fun k hk _ => h.block k hk⟩
theorem But.below (h : But F w w1) (hf : ∀ k, k < w.heap.size → ¬ F k) : Below w.heap.size w w1 := ⟨h.os, h.tape, h.output, h.size, fun k hk => h.block k hk (hf k hk)⟩
theorem But.drewN (h : But F w w1) (n : Nat) : But F w (w1.drewN n) := ⟨h.os, h.tape, h.output, h.size, h.block⟩
theorem But.drew (h : But F w w1) : But F w w1.drew := ⟨h.os, h.tape, h.output, h.size, h.block⟩
theorem But.alloc (h : But F w w1) (o : Obj) : But F w (w1.alloc o) := h.trans (.of_below ((Below.refl _ _).alloc (Nat.le_refl _) o) F)
theorem But.call (h : But F w w1) (hb : Below w1.heap.size w1 w2) : But F w w2 := h.trans (.of_below hb F)
theorem But.only {b : Nat} (h : But F w w1) (ho : OnlyB w1 w2 b) (hf : F b ∨ w.heap.size ≤ b) : But F w w2 :=
  ⟨ho.grown.os.trans h.os, ho.grown.tape.trans h.tape, ho.grown.output.trans h.output, by have := ho.size; have := h.size; omega, fun k hk hfk => by
    have hne : some k ≠ some b := by
      intro e
      injection e with e
      subst e
      rcases hf with hf | hf
      · exact hfk hf
      · omega
    exact (ho.grown.block k (Nat.lt_of_lt_of_le hk h.size) hne).trans (h.block k hk hfk)⟩
theorem But.setCell (h : But F w w1) {p : Addr} (hp : F p.block ∨ w.heap.size ≤ p.block) (u : Value) : But F w (w1.setCell p u) :=
  ⟨h.os, h.tape, h.output, by have := h.size; simpa [World.setCell] using this, fun k hk hfk => by
    have hne : k ≠ p.block := by
      intro e
      subst e
      rcases hp with hf | hf
      · exact hfk hf
      · omega
    exact (Below.heap_setCell w1 p u k hne).trans (h.block k hk hfk)⟩
theorem OnlyB.heap {b k : Nat} (ho : OnlyB w w1 b) (hk : k ≠ b) : w1.heap[k]? = w.heap[k]? := by
  by_cases hlt : k < w.heap.size
  · exact ho.grown.block k hlt (fun e => hk (by injection e))
  · have hs := ho.size
    rw [Array.getElem?_eq_none (by omega), Array.getElem?_eq_none (by omega)]
end

theorem But.grown {F : Nat → Prop} {w w1 w2 : World} {r : Option Nat} (h : But F w w1) (hg : w1.grownBy w2 r) (hf : ∀ k, r = some k → F k ∨ w.heap.size ≤ k) : But F w w2 :=
  ⟨hg.os.trans h.os, hg.tape.trans h.tape, hg.output.trans h.output, Nat.le_trans h.size hg.size, fun k hk hfk => by
    have hne : some k ≠ r := by
      intro e
      rcases hf k e.symm with hf | hf
      · exact hfk hf
      · omega
    exact (hg.block k (Nat.lt_of_lt_of_le hk h.size) hne).trans (h.block k hk hfk)⟩
end Go.Proofs.YtbgkladgeijgdaaGreat

/- A map that holds a list (MapIs), ranged over: the keys come, each once, in some order. -/
set_option linter.unusedVariables false
set_option linter.unusedSimpArgs false
namespace Go.Proofs.YtbgkladgeijgdaaGreat
open Go.RowKit Go.Maps Go.ChangeMaps Go.MapKept Go.WideShapes

theorem nd_of_map {α β : Type} (f : α → β) {l : List α} (h : (l.map f).Nodup) : l.Nodup := by
  rw [List.Nodup, List.pairwise_map] at h
  exact List.Pairwise.imp (fun hne e => hne (congrArg f e)) h
section
variable {P : Program} {t : TypeId} {κ ν : Type} [DecidableEq κ] {M : MK P t κ} {ev : ν → Value}

variable (M ev) in
/-- 'for k := range m' under way: the map holds l; ss have come -/
def Rng (w : World) (b r : Nat) (l : List (κ × ν)) (ss : List κ) : Prop :=
  MapIs M ev w b l ∧ ∃ (es : Array MapEntry) (clock since : Nat) (seen : Array Nat) (c0 : Nat) (vs : List MapEntry), w.heap[b]? = some (.map es clock) ∧ es.toList.map (fun e => (e.key, e.val)) = l.map (fun x => (M.ek x.1, ev x.2)) ∧ (es.toList.map (·.born)).Nodup ∧
    w.heap[r]? = some (.mapIter (some b) since seen c0) ∧ (∀ x ∈ es.toList, x.born < since) ∧ since ≤ c0 ∧ since ≤ clock ∧
    seen.toList = vs.map (·.born) ∧ (∀ e ∈ vs, e ∈ es.toList) ∧ (vs.map (·.born)).Nodup ∧ ss.map M.ek = vs.map (·.key)

omit [DecidableEq κ] in
theorem MapIs.range {T e : TypeId} {w : World} {b : Nat} {l : List (κ × ν)} (h : MapIs M ev w b l) (ht : P.underlying T = some (.map t e)) :
    ∃ w', (Instr.range T (.map (some b))).run P w = .ok (.pointer (some ⟨w.heap.size, 0, none⟩)) w' ∧ Rng M ev w' b w.heap.size l [] ∧ w.grownBy w' none ∧ w'.heap.size = w.heap.size + 1 := by
  have hlt := h.lt
  obtain ⟨es, clock, hb, hm, hc, hn⟩ := h.ex
  have hbk := ((MapKept.heap_alloc w (.mapIter (some b) clock #[] clock)).2 b hlt)
  exact ⟨_, run_range_map w T t e b es clock ht hb, ⟨h.keep hbk, es, clock, clock, #[], clock, [], hbk.trans hb, hm, hn, (MapKept.heap_alloc w _).1, hc, Nat.le_refl _, Nat.le_refl _, rfl, by simp, by simp, rfl⟩, World.grownBy_alloc w _ none, by simp⟩

omit [DecidableEq κ] in
theorem Rng.ne {w : World} {b r : Nat} {l : List (κ × ν)} {ss : List κ} (h : Rng M ev w b r l ss) : r ≠ b := by
  obtain ⟨_, es, clock, since, seen, c0, vs, hb, _, _, hr, _⟩ := h
  intro e
  rw [e, hb] at hr
  cases hr

omit [DecidableEq κ] in
theorem Rng.iter_walk {w : World} {b r : Nat} {l : List (κ × ν)} {ss : List κ} (h : Rng M ev w b r l ss) : ∃ o : Obj, w.heap[r]? = some o ∧ o.isWalk = true := by
  obtain ⟨_, es, clock, since, seen, c0, vs, hb, _, _, hr, _⟩ := h
  exact ⟨_, hr, rfl⟩

omit [DecidableEq κ] in
theorem Rng.of_walks {w w' : World} {b r : Nat} {l : List (κ × ν)} {ss : List κ} (h : Rng M ev w b r l ss) (hk : KeepsWalks w w') : Rng M ev w' b r l ss := by
  obtain ⟨hm, es, clock, since, seen, c0, vs, hb, h1, h2, hr, rest⟩ := h
  have hb' := hk.same b _ hb rfl
  exact ⟨hm.keep (hb'.trans hb.symm), es, clock, since, seen, c0, vs, hb', h1, h2, hk.same r _ hr rfl, rest⟩

omit [DecidableEq κ] in
theorem rangeLeft_walks {w w' : World} {b r : Nat} {l : List (κ × ν)} {ss : List κ} (hk : KeepsWalks w w') (h : Rng M ev w b r l ss) : w'.rangeLeft b r = w.rangeLeft b r := by
  obtain ⟨hm, es, clock, since, seen, c0, vs, hb, h1, h2, hr, rest⟩ := h
  simp only [World.rangeLeft, hk.same b _ hb rfl, hk.same r _ hr rfl, hb, hr]
omit [DecidableEq κ] in
theorem Rng.len {w : World} {b r : Nat} {l : List (κ × ν)} {ss : List κ} (h : Rng M ev w b r l ss) : ss.length + w.rangeLeft b r ≤ l.length := by
  obtain ⟨_, es, clock, since, seen, c0, vs, hb, hm, hn, hr, _, _, _, hs, hv, hvn, hss⟩ := h
  simp only [World.rangeLeft, hb, hr]
  have e1 : ss.length = vs.length := by simpa using congrArg List.length hss
  have e2 : l.length = es.toList.length := by simpa using (congrArg List.length hm).symm
  rw [e1, e2]
  have hvs : vs.Nodup := nd_of_map _ hvn
  have hen : es.toList.Nodup := nd_of_map _ hn
  have e3 : (leftOf es seen).size = (es.toList.filter fun e => !seen.contains e.born).length := by
    unfold leftOf
    rw [← Array.toList_filter, Array.length_toList]
  rw [e3]
  have hnd : (vs ++ es.toList.filter fun e => !seen.contains e.born).Nodup := by
    refine List.nodup_append.2 ⟨hvs, hen.sublist List.filter_sublist, fun a ha c hc e => ?_⟩
    subst e
    have h3 := (List.mem_filter.1 hc).2
    have h4 : a.born ∈ seen.toList := by rw [hs]; exact List.mem_map.2 ⟨a, ha, rfl⟩
    simp at h3
    exact h3 (by simpa using h4)
  have := hnd.length_le_of_subset (l₂ := es.toList) (fun x hx => by
    rcases List.mem_append.1 hx with h | h
    · exact hv x h
    · exact (List.mem_filter.1 h).1)
  simpa using this

omit [DecidableEq κ] in
theorem perm_of_map (M : MK P t κ) {ss ks : List κ} (hk : ks.Nodup) (h : (ss.map M.ek).Perm (ks.map M.ek)) : ss.Perm ks := by
  have hkn : (ks.map M.ek).Nodup := by
    rw [List.Nodup, List.pairwise_map]
    exact List.Pairwise.imp (fun hne e => hne (M.inj _ _ e)) hk
  have hsn : ss.Nodup := nd_of_map _ ((h.nodup_iff).2 hkn)
  refine (List.perm_ext_iff_of_nodup hsn hk).2 fun x => ?_
  have m : ∀ (q : List κ), x ∈ q ↔ M.ek x ∈ q.map M.ek := fun q => ⟨fun hx => List.mem_map.2 ⟨x, hx, rfl⟩, fun hx => by
    obtain ⟨y, hy, e⟩ := List.mem_map.1 hx
    rwa [← M.inj _ _ e]⟩
  rw [m, m, h.mem_iff]

omit [DecidableEq κ] in
theorem Rng.next {w : World} {b r : Nat} {l : List (κ × ν)} {ss : List κ} (h : Rng M ev w b r l ss) (ty : TypeId) :
    (ss.Perm (l.map (·.1)) ∧ (Instr.next (.pointer (some ⟨r, 0, none⟩)) false ty).run P w = .ok (.tuple #[.bool false]) w) ∨
    ∃ k v w', (k, v) ∈ l ∧ (Instr.next (.pointer (some ⟨r, 0, none⟩)) false ty).run P w = .ok (.tuple #[.bool true, M.ek k, ev v]) w' ∧
      Rng M ev w' b r l (ss ++ [k]) ∧ w'.rangeLeft b r < w.rangeLeft b r ∧ w.grownBy w' (some r) ∧ w'.heap.size = w.heap.size ∧ (Instr.entry (.pointer (some ⟨r, 0, none⟩))).run P w' = .ok (.tuple #[M.ek k, ev v]) w' := by
  have hne := h.ne
  obtain ⟨hM, es, clock, since, seen, c0, vs, hb, hm, hn, hr, hold, hsc, hsk, hs, hv, hvn, hss⟩ := h
  rcases run_next_at (P := P) w ty r b since c0 seen es clock hr hb hold hsc with ⟨h0, hrun⟩ | ⟨e, he, w1, hal, hrun⟩
  · refine Or.inl ⟨perm_of_map M hM.once ?_, hrun⟩
    have hall := all_seen es seen h0
    have hp : vs.Perm es.toList := by
      refine (List.perm_ext_iff_of_nodup (nd_of_map _ hvn) (nd_of_map _ hn)).2 fun x => ⟨hv x, fun hx => ?_⟩
      have h1 := hall x hx
      have h2 : x.born ∈ seen.toList := by simpa using h1
      rw [hs] at h2
      obtain ⟨y, hy, hyb⟩ := List.mem_map.1 h2
      rwa [← born_inj hn (hv y hy) hx hyb]
    rw [hss]
    have h3 := congrArg (List.map (·.1)) hm
    simp only [List.map_map] at h3
    have h4 : es.toList.map (·.key) = (l.map (·.1)).map M.ek := by simpa [Function.comp_def] using h3
    rw [← h4]
    exact hp.map _
  · obtain ⟨hem, hes⟩ := mem_left he
    have hx : (e.key, e.val) ∈ l.map (fun x => (M.ek x.1, ev x.2)) := by rw [← hm]; exact List.mem_map.2 ⟨e, hem, rfl⟩
    obtain ⟨⟨k, v⟩, hkv, hx2⟩ := List.mem_map.1 hx
    obtain ⟨hk2, hv2⟩ := Prod.mk.inj hx2
    simp only at hk2 hv2
    have hr1 : w1.heap[r]? = some (.mapIter (some b) since seen c0) := by rcases hal with rfl | rfl <;> exact hr
    have hb1 : w1.heap[b]? = some (.map es clock) := by rcases hal with rfl | rfl <;> exact hb
    have hset := heap_set (o' := .mapIter (some b) since (seen.push e.born) clock) hr1
    have hb' : (setBlock w1 r (.mapIter (some b) since (seen.push e.born) clock)).heap[b]? = some (.map es clock) := (hset.2 b (fun e1 => hne e1.symm)).trans hb1
    refine Or.inr ⟨k, v, _, hkv, by rw [hrun, ← hk2, ← hv2], ⟨hM.keep (hb'.trans hb.symm), es, clock, since, seen.push e.born, clock, vs ++ [e], hb', hm, hn, hset.1, hold, hsk, hsk, ?_, ?_, ?_, ?_⟩, ?_, ?_, ?_,
      by rw [hk2, hv2]; exact run_entry_at _ r b since seen es clock e hset.1 hb' hem hn⟩
    · simp [hs]
    · intro x hx
      rcases List.mem_append.1 hx with h | h
      · exact hv x h
      · simp at h; rw [h]; exact hem
    · rw [List.map_append]
      refine List.nodup_append.2 ⟨hvn, by simp, fun a ha c hc e1 => ?_⟩
      simp at hc
      rw [hc] at e1
      rw [e1, ← hs] at ha
      have : seen.contains e.born = true := by simpa using ha
      rw [hes] at this
      cases this
    · rw [List.map_append, List.map_append, hss]
      simp [hk2]
    · have hsr : (setBlock w1 r (.mapIter (some b) since (seen.push e.born) clock)).heap[r]? = some (.mapIter (some b) since (seen.push e.born) clock) := hset.1
      simp only [World.rangeLeft, hsr, hb', hb, hr]
      exact left_shrinks es seen e he
    · rcases hal with rfl | rfl <;> exact ⟨rfl, rfl, rfl, by simp [setBlock], fun i _ hi => hset.2 i (fun e1 => hi (by rw [e1]))⟩
    · rcases hal with rfl | rfl <;> simp [setBlock]
end
section
variable {F : Fence} {n : Nat} {P : Program} {t : TypeId} {κ ν : Type} {M : MK P t κ} {ev : ν → Value} {ops : Array Oper} {rest : List Oper} {o : Oper} {a : Act} {Q : Exit → Act → World → Prop} {w : World}
theorem wpIn_range (hg : o.guard = none) (m : Operand) (T : TypeId) (hop : o.op = Op.range T m) (e : TypeId) (ht : P.underlying T = some (.map t e)) (b : Nat) (l : List (κ × ν)) (hm : a.eval m = .map (some b)) (h : MapIs M ev w b l)
    (hK : ∀ w', Rng M ev w' b w.heap.size l [] → w.grownBy w' none → w'.heap.size = w.heap.size + 1 → wpListIn F n P ops Q rest (a.put o.dst (.pointer (some ⟨w.heap.size, 0, none⟩))) w') :
    wpListIn F n P ops Q (o :: rest) a w := by
  refine wpListIn_plain hg fun K' hK' => ?_
  obtain ⟨w', hrun, r1, r2, r3⟩ := h.range ht
  unfold Oper.wpIn
  refine ⟨?_, ?_⟩
  · simp [Oper.about, hop]
  · rw [Oper.semAt_plain F _ _ (by rw [hop]; intro c hc'; cases hc')]
    simp [execOp, hop, hm, hrun, Result.andThen]
    exact hK' _ _ (hK w' r1 r2 r3)
theorem wpIn_next (hg : o.guard = none) (it : Operand) (hop : o.op = Op.next it false) (b r : Nat) (l : List (κ × ν)) (ss : List κ) (hit : a.eval it = .pointer (some ⟨r, 0, none⟩)) (h : Rng M ev w b r l ss)
    (hDone : ss.Perm (l.map (·.1)) → wpListIn F n P ops Q rest (a.put o.dst (.tuple #[.bool false])) w)
    (hMore : ∀ k v w', (k, v) ∈ l → Rng M ev w' b r l (ss ++ [k]) → w'.rangeLeft b r < w.rangeLeft b r → w.grownBy w' (some r) → w'.heap.size = w.heap.size →
      (Instr.entry (.pointer (some ⟨r, 0, none⟩))).run P w' = .ok (.tuple #[M.ek k, ev v]) w' → wpListIn F n P ops Q rest (a.put o.dst (.tuple #[.bool true, M.ek k, ev v])) w') :
    wpListIn F n P ops Q (o :: rest) a w := by
  refine wpListIn_plain hg fun K' hK' => ?_
  unfold Oper.wpIn
  refine ⟨by simp [Oper.about, hop], ?_⟩
  rw [Oper.semAt_plain F _ _ (by rw [hop]; intro c hc'; cases hc')]
  rcases h.next o.type with ⟨h0, hrun⟩ | ⟨k, v, w', hkv, hrun, hrg, hlt, hgr, hsz, hen⟩
  · simp [execOp, hop, hit, hrun, Result.andThen]
    exact hK' _ _ (hDone h0)
  · simp [execOp, hop, hit, hrun, Result.andThen]
    exact hK' _ _ (hMore k v w' hkv hrg hlt hgr hsz hen)
end
end Go.Proofs.YtbgkladgeijgdaaGreat


/- Maps with whole numbers as keys. -/
set_option linter.unusedVariables false
set_option linter.unusedSimpArgs false
namespace Go.Proofs.YtbgkladgeijgdaaGreat
open Go.RowKit Go.Maps

def mInt : MK Tryz.prog 3 Int where
  K := int_keyed Tryz.underlying3
  ek := fun k => .int .i64 k
  ok := fun k => I64 k
  key := fun k h => ⟨_, keyOf_int_mk Tryz.underlying3 h⟩
  inj := by
    intro a b h
    simpa using h
theorem zeroI (w : World) : (zeroValue 3).run Tryz.prog w = .ok (.int .i64 0) w := by kernel_rfl
/-- what stands under a key: 0, if nothing -/
def at0 (s : List (Int × Int)) (k : Int) : Int := (look s k).getD 0
theorem lookI {T : TypeId} {w : World} {b : Nat} {s : List (Int × Int)} (h : MapIs mInt (Value.int .i64) w b s) (ht : Tryz.prog.underlying T = some (.map 3 3)) {k : Int} (hk : I64 k) (W : World) (hW : W.heap[b]? = w.heap[b]?) :
    (Instr.lookup T (.map (some b)) (.int .i64 k) false).run Tryz.prog W = .ok (.int .i64 (at0 s k)) W := by
  have := (h.keep (w' := W) hW).lookup ht (k := k) hk (zeroI W)
  rw [show mInt.ek k = .int .i64 k from rfl] at this
  rw [this]
  unfold at0
  cases look s k <;> rfl
theorem wrap64_wf (n : Int) : I64 (wrap64 n) := by
  unfold I64 Lit.wf wrap64
  simp [IntKind.min, IntKind.max, IntKind.bits, IntKind.signed]
  omega
/-- an amount added under a key -/
def sAdd (s : List (Int × Int)) (k v : Int) : List (Int × Int) := ins s k (wrap64 (at0 s k + v))
theorem sAdd_vals {s : List (Int × Int)} (h : ∀ x ∈ s, I64 x.2) (k v : Int) : ∀ x ∈ sAdd s k v, I64 x.2 := by
  intro x hx
  rcases mem_ins hx with rfl | hx
  · exact wrap64_wf _
  · exact h x hx
end Go.Proofs.YtbgkladgeijgdaaGreat


/- Contracts of the package entry: entity, named, row, front; money.Fits. -/
set_option linter.unusedVariables false
set_option linter.unusedSimpArgs false
namespace Go.Proofs.YtbgkladgeijgdaaGreat
open Go.RowKit Go.Maps

set_option maxHeartbeats 1000000 in
theorem mfits_any (a : Option Addr) (cap : Nat) (l : List Int) (w : World) {F : Nat → Prop} (hl : l.length ≤ 140737488351232) (hs : Sl tInt w F a l) :
    Calls Tryz.prog 127 #[.slice a l.length cap] w fun e w' => e = .returned (.bool (l.all fitsB)) ∧ w' = w := by
  have HL := Lib.hid hs
  clear hs
  go_enter Tryz.func127, Tryz.ntmps127
  go_wp2_with fail
  go_loopw [7] (fun vi wr => ∃ n : Nat, n ≤ l.length ∧ vi = .int .i64 n ∧ Hid ((l.take n).all fitsB = true) ∧ wr = w) (fun vi _ => l.length - (intOf vi).toNat)
  case atStart => exact ⟨0, Nat.zero_le _, rfl, rfl, rfl⟩
  case round =>
    obtain ⟨n, hn, rfl, hall, rfl⟩ := hrel
    by_cases hlt : n < l.length
    · obtain ⟨ad, rfl, hadl, hc0⟩ := int_at HL.out n hlt
      cases hv : fitsB l[n]
      · have hres : l.all fitsB = false := by
          rw [List.all_eq_false]
          exact ⟨l[n], List.getElem_mem hlt, by simp [hv]⟩
        have HR := Lib.hid hres
        clear hres
        have hbd : l[n] < -1000000000000000 ∨ -1000000000000000 ≤ l[n] ∧ 1000000000000000 < l[n] := by
          simp [fitsB] at hv
          omega
        clear hv
        rcases hbd with h | ⟨h1, h⟩
        all_goals
          go_wp2_with fail
          go_ret
          rw [HR.out]
          exact ⟨rfl, rfl⟩
      · have hnext := (all_take_succ fitsB l n hlt).trans (by rw [hall.out, hv]; try rfl)
        have HN := Lib.hid hnext
        have hbd : -1000000000000000 ≤ l[n] ∧ l[n] ≤ 1000000000000000 := by simpa [fitsB] using hv
        obtain ⟨hb1, hb2⟩ := hbd
        clear hnext hv
        go_wp2_with fail
        go_roundw
        case rel => exact ⟨n + 1, by omega, by go_num, HN.out, by first | rfl | trivial⟩
        case measure => simp [intOf]; omega
    · have hres : l.all fitsB = true := by
        have := hall.out
        rwa [List.take_of_length_le (by omega)] at this
      have HR := Lib.hid hres
      clear hres
      go_wp2_with fail
      go_ret
      rw [HR.out]
      exact ⟨rfl, rfl⟩

theorem mfits1 (m : Int) (b : Nat) (w : World) (hm : w.heap[b]? = some (.cells #[.int .i64 m] 3 (0, 0))) (hw : (Lit.int .i64 m).wf = true) :
    Calls Tryz.prog 127 #[.slice (some ⟨b, 0, none⟩) 1 1] w fun e w' => e = .returned (.bool (fitsB m)) ∧ w' = w := by
  have h := mfits_any (some ⟨b, 0, none⟩) 1 [m] w (by simp only [List.length_cons, List.length_nil]; omega) (sl_one m b w hm hw)
  have e1 : [m].all fitsB = fitsB m := by simp
  rw [e1] at h
  exact h

def entB (n : Int) : Bool := decide (1 ≤ n) && decide (n ≤ 9)
theorem entity_any (n : Int) (w : World) : Calls Tryz.prog 172 #[.int .i64 n] w fun e w' => e = .returned (.bool (entB n)) ∧ w' = w := by
  go_enter Tryz.func172, Tryz.ntmps172
  go_wp2
  all_goals
    go_ret
    refine ⟨?_, rfl⟩
    (first | (simp [entB, *]; done) | (simp [entB] at *; grind) | (simp_all [entB]; done))

def namedB (r : ByteArray) : Bool := refOk r && decide ((r.size : Int) ≤ 8)
theorem byte_cases {x : Nat} {b : Bool} (h : refB (x : Int) = b) : (b = false ∧ ((x : Int) < 48 ∧ (x : Int) < 65 ∨ 57 < (x : Int) ∧ 48 ≤ (x : Int) ∧ (x : Int) < 65 ∨ 65 ≤ (x : Int) ∧ 90 < (x : Int) ∧ 48 ≤ (x : Int) ∧ 57 < (x : Int))) ∨
    (b = true ∧ (48 ≤ (x : Int) ∧ (x : Int) ≤ 57 ∧ (x : Int) < 65 ∨ 65 ≤ (x : Int) ∧ (x : Int) ≤ 90)) := by
  subst h
  cases h : refB (x : Int)
  · simp [refB] at h
    simp
    omega
  · simp [refB] at h
    simp
    omega

set_option maxHeartbeats 2000000 in
theorem named_any (r : ByteArray) (hsz : r.size ≤ 140737488351232) (w : World) : Calls Tryz.prog 173 #[.string r] w fun e w' => e = .returned (.bool (namedB r)) ∧ w' = w := by
  generalize hres : namedB r = res
  have HC := Lib.hid hres
  clear hres
  go_enter Tryz.func173, Tryz.ntmps173
  go_wp2_with fail
  go_loopw [7] (fun vi wr => ∃ n : Nat, n ≤ r.size ∧ vi = .int .i64 n ∧ Hid ((r.data.toList.take n).all (fun c => refB (c.toNat : Int)) = true) ∧ wr = w) (fun vi _ => r.size - (intOf vi).toNat)
  case atStart => exact ⟨0, Nat.zero_le _, rfl, rfl, rfl⟩
  case round =>
    obtain ⟨n, hn, rfl, hall, rfl⟩ := hrel
    by_cases hlt : n < r.size
    · have hlt' : n < r.data.toList.length := by rw [Array.length_toList]; exact hlt
      have HLT := Lib.hid (show n + 1 ≤ r.size ∧ True from ⟨hlt, trivial⟩)
      have hget : r.data.toList[n] = r[n] := by rw [Array.getElem_toList]; rfl
      cases hv : refB ((r[n]).toNat : Int)
      · have hr : res = false := by
          rw [← HC.out]
          simp [namedB, refOk_at n hlt' (by rw [hget]; exact hv)]
        have HR := Lib.hid hr
        have hb := byte_cases hv
        simp only [true_and, Bool.false_eq_true, false_and, or_false] at hb
        clear hr hget hv
        rcases hb with ⟨h1, h2⟩ | ⟨h1, h2, h3⟩ | ⟨h1, h2, h3, h4⟩
        all_goals
          go_wp2_with fail
          go_ret
          rw [HR.out]
          exact ⟨rfl, rfl⟩
      · have hnext := (all_take_succ (fun c : UInt8 => refB (c.toNat : Int)) _ n hlt').trans (by rw [hall.out, hget, hv]; try rfl)
        have HN := Lib.hid hnext
        have hb := byte_cases hv
        simp only [true_and, Bool.true_eq_false, false_and, false_or] at hb
        clear hnext hget hv
        rcases hb with ⟨h1, h2, h3⟩ | ⟨h1, h2⟩
        all_goals
          go_wp2_with fail
          go_roundw
          case rel => exact ⟨n + 1, HLT.out.1, by go_num, HN.out, by first | rfl | trivial⟩
          case measure => have := HLT.out.1; simp [intOf]; omega
    · have hro : refOk r = true := by
        have := hall.out
        rwa [List.take_of_length_le (by rw [Array.length_toList]; exact Nat.le_of_not_lt hlt)] at this
      have hr : res = decide ((r.size : Int) ≤ 8) := by
        rw [← HC.out]
        simp only [namedB, hro, Bool.true_and]
      have HR := Lib.hid hr
      clear hr hro
      go_wp2_with fail
      go_ret
      rw [HR.out]
      exact ⟨rfl, rfl⟩
end Go.Proofs.YtbgkladgeijgdaaGreat


/- Contracts of the package entry: row, front, Check. -/
set_option linter.unusedVariables false
set_option linter.unusedSimpArgs false
namespace Go.Proofs.YtbgkladgeijgdaaGreat
open Go.RowKit Go.Maps

abbrev lnv (l : Ln) : Value := .agg #[.int .i64 l.acc, .int .i64 l.amt, .int .i64 l.par]
theorem entity_is (n : Int) {b : Bool} (h : entB n = b) (w : World) : Calls Tryz.prog 172 #[.int .i64 n] w fun e w' => e = .returned (.bool b) ∧ w' = w := by
  have := entity_any n w
  rwa [h] at this

theorem row_bad {en : Int} {l : Ln} (he : 1 ≤ en) (h : rowBad en l = true) : l.acc < 1 ∨ 1 ≤ l.acc ∧ (9999 < l.acc ∨ l.acc ≤ 9999 ∧ ((l.amt == 0) = true ∧ (l.amt != 0) = false ∨ (l.amt != 0) = true ∧ ((l.par == 0) = false ∧ entB l.par = false ∨ (l.par == 0) = false ∧ entB l.par = true ∧ (l.par != en) = false))) := by
  rcases row_cases h with h | ⟨h1, h | ⟨h2, h | ⟨h3, h | ⟨h4, h | ⟨h5, h⟩⟩⟩⟩⟩
  · exact .inl h
  · exact .inr ⟨h1, .inl h⟩
  · exact .inr ⟨h1, .inr ⟨h2, .inl ⟨h, by simpa using h⟩⟩⟩
  all_goals
    have h3' : (l.amt != 0) = true := by simpa using h3
    refine .inr ⟨h1, .inr ⟨h2, .inr ⟨h3', ?_⟩⟩⟩
  · exact .inl ⟨by simp; omega, by simp [entB]; omega⟩
  · exact .inl ⟨by simp; omega, by simp [entB]; omega⟩
  · have h' : l.par = en := by simpa using h
    by_cases h9 : 9 < l.par
    · omega
    · exact .inr ⟨by simp; omega, by simp [entB]; omega, by simp [h']⟩
theorem row_good {en : Int} {l : Ln} (h : rowBad en l = false) : 1 ≤ l.acc ∧ l.acc ≤ 9999 ∧ (l.amt != 0) = true ∧ ((l.par == 0) = true ∨ (l.par == 0) = false ∧ entB l.par = true ∧ (l.par != en) = true) := by
  obtain ⟨h1, h2, h3, h4, h5, h6⟩ := row_ok h
  refine ⟨h1, h2, by simpa using h3, ?_⟩
  by_cases h0 : l.par = 0
  · exact .inl (by simp [h0])
  · exact .inr ⟨by simpa using h0, by simp [entB]; omega, by simpa using h6⟩

set_option maxHeartbeats 2000000 in
theorem erow_any (l : Ln) (en : Int) (he : 1 ≤ en) (w : World) : Calls Tryz.prog 158 #[lnv l, .int .i64 en] w fun e w' => e = .returned (.bool (!rowBad en l)) ∧ Below w.heap.size w w' := by
  cases hv : rowBad en l
  · obtain ⟨h1, h2, h3, h4⟩ := row_good hv
    clear hv
    obtain ⟨acc, amt, par⟩ := l
    simp only at h1 h2 h3 h4
    rcases h4 with h4 | ⟨h4, h5, h6⟩
    · go_enter Tryz.func158, Tryz.ntmps158
      go_wp2_with fail
      go_ret
      exact ⟨rfl, (Below.refl _ _).alloc (Nat.le_refl _) _⟩
    · have H5 := Lib.hid h5
      clear h5
      go_enter Tryz.func158, Tryz.ntmps158
      go_wp2_with fail
      refine (entity_is _ H5.out _).mono ?_
      rintro e w' ⟨rfl, rfl⟩
      go_wp2_with fail
      go_ret
      exact ⟨rfl, (Below.refl _ _).alloc (Nat.le_refl _) _⟩
  · have hb := row_bad he hv
    clear hv
    obtain ⟨acc, amt, par⟩ := l
    simp only at hb
    rcases hb with h | ⟨h1, h | ⟨h2, ⟨h, h0⟩ | ⟨h3, h | h⟩⟩⟩
    iterate 3
      go_enter Tryz.func158, Tryz.ntmps158
      go_wp2_with fail
      go_ret
      exact ⟨rfl, (Below.refl _ _).alloc (Nat.le_refl _) _⟩
    · obtain ⟨h4, h5⟩ := h
      have H5 := Lib.hid h5
      clear h5
      go_enter Tryz.func158, Tryz.ntmps158
      go_wp2_with fail
      refine (entity_is _ H5.out _).mono ?_
      rintro e w' ⟨rfl, rfl⟩
      go_wp2_with fail
      go_ret
      exact ⟨rfl, (Below.refl _ _).alloc (Nat.le_refl _) _⟩
    · obtain ⟨h4, h5, h6⟩ := h
      have H5 := Lib.hid h5
      clear h5
      go_enter Tryz.func158, Tryz.ntmps158
      go_wp2_with fail
      refine (entity_is _ H5.out _).mono ?_
      rintro e w' ⟨rfl, rfl⟩
      go_wp2_with fail
      go_ret
      exact ⟨rfl, (Below.refl _ _).alloc (Nat.le_refl _) _⟩
end Go.Proofs.YtbgkladgeijgdaaGreat
