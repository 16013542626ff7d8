/- Maps as lists: 'm[k] op= v' in two steps: the entry, then what is stored in it. -/
import Derived.Test.YtgggpaacagbmcaaGreatX01GroupTells
import Derived.WideKeyEntry
set_option linter.unusedVariables false
set_option linter.unusedSimpArgs false
namespace Go.Proofs.YtgggpaacagbmcaaGreat
open Go.RowKit Go.Maps Go.WideElems

section
variable {P : Program} {t : TypeId} {κ ν : Type} [DecidableEq κ] {M : MK P t κ} {ev : ν → Value}
/-- an entry is there, its stamp is st: what is stored in it -/
def EntIs (M : MK P t κ) (ev : ν → Value) (T : TypeId) (w : World) (b : Nat) (l : List (κ × ν)) (k : κ) (st : Nat) : Prop :=
  ∀ (w2 : World) (y : ν), w2.heap[b]? = w.heap[b]? → ∃ w3, (Instr.entryStore T (.map (some b)) (goInt st) (ev y)).run P w2 = .ok () w3 ∧ MapIs M ev w3 b (ins l k y) ∧ OnlyB w2 w3 b
theorem MapIs.entry {T e : TypeId} {w : World} {b : Nat} {l : List (κ × ν)} (h : MapIs M ev w b l) (hl : l.length ≤ maxLen) (KL : WideMaps.KeyLaw P t) (ht : P.underlying T = some (.map t e)) {z : Value} (hz : ∀ u : World, (zeroValue e).run P u = .ok z u) {k : κ} (hk : M.ok k) :
    ∃ (v0 : Value) (st : Nat) (w1 : World), (Instr.mapEntry T (.map (some b)) (M.ek k)).run P w = .ok (.tuple #[v0, goInt st]) w1 ∧ OnlyB w w1 b ∧ EntIs M ev T w1 b l k st := by
  obtain ⟨es, clock, hb, hm, hc, hn⟩ := h.ex
  obtain ⟨kl, hkl⟩ := M.key k hk
  have hlt : b < w.heap.size := h.lt
  have hsz : es.size = l.length := by
    have := congrArg List.length hm
    simpa using this
  have hkn : (es.toList.map (·.key)).Nodup := by
    have e1 : es.toList.map (·.key) = (l.map (·.1)).map M.ek := by
      have := congrArg (List.map Prod.fst) hm
      rw [List.map_map, List.map_map] at this
      rw [List.map_map]
      exact this
    rw [e1, List.Nodup, List.pairwise_map]
    exact List.Pairwise.imp (fun hne e => hne (M.inj _ _ e)) h.once
  have F : Fit (H := Unit) P t (fun _ => some (.nil, [])) es clock := ⟨by omega, ⟨hc, hn, hkn⟩, fun x hx => by
    have : (x.key, x.val) ∈ es.toList.map (fun e => (e.key, e.val)) := List.mem_map.2 ⟨x, hx, rfl⟩
    rw [hm] at this
    obtain ⟨y, hy, hy2⟩ := List.mem_map.1 this
    obtain ⟨l0, hl0⟩ := M.key y.1 (h.oks y hy)
    have hkx : keyOf P t x.key = some l0 := by rw [← (Prod.mk.inj hy2).1]; exact hl0
    unfold rd
    rw [hkx]
    exact ⟨_, rfl⟩⟩
  obtain ⟨v0, st, es1, clock1, h1, _, h3⟩ := entry_then_store KL ht hz hb F hkl
  refine ⟨v0, st, _, h1, OnlyB.set _ _ _, fun w2 y hw2 => ?_⟩
  have hb1 : w2.heap[b]? = some (.map es1 clock1) := hw2.trans (set_same w b _ hlt)
  obtain ⟨es2, clock2, r1, r2⟩ := h3 w2 (ev y) hb1
  obtain ⟨w', r3, r4, _⟩ := h.update ht hk y
  rw [r2] at r3
  injection r3 with _ r3
  refine ⟨_, r1, r4.keep ?_, OnlyB.set _ _ _⟩
  rw [← r3]
  exact (set_same w2 b _ (Array.getElem?_eq_some_iff.1 hb1).1).trans (set_same w b _ hlt).symm
theorem look_insQ {l : List (κ × ν)} {k : κ} {v : ν} : look (ins l k v) k = some v := by
  induction l with
  | nil => simp [ins, look]
  | cons x r ih =>
    by_cases hx : x.1 = k
    · simp [ins, hx, look]
    · unfold ins
      rw [if_neg hx]
      unfold look at ih ⊢
      rw [List.find?_cons_of_neg (by simpa using hx)]
      exact ih
/-- the value under a key is what it was, behind the entry too -/
theorem MapIs.entry_look {T e : TypeId} {w w1 : World} {b : Nat} {l : List (κ × ν)} (h : MapIs M ev w b l) (ht : P.underlying T = some (.map t e)) (z0 : ν) (hz : ∀ u : World, (zeroValue e).run P u = .ok (ev z0) u) {k : κ} (hk : M.ok k) {r : Value}
    (hrun : (Instr.mapEntry T (.map (some b)) (M.ek k)).run P w = .ok r w1) : ∀ W : World, W.heap[b]? = w1.heap[b]? → (Instr.lookup T (.map (some b)) (M.ek k) false).run P W = .ok (ev ((look l k).getD z0)) W := by
  intro W hW
  obtain ⟨es, clock, hb, hm, hc, hn, hf⟩ := h.findKey hk w
  obtain ⟨lx, hlx⟩ := M.key k hk
  have hck := M.K.check w false hlx
  have hst := M.K.stays w hlx
  have hlt : b < w.heap.size := h.lt
  rcases hf with ⟨h1, h2⟩ | ⟨j, v0, e', h1, h2, h3, h4, h5⟩
  · have e1 : (Instr.mapEntry T (.map (some b)) (M.ek k)).run P w = .ok (.tuple #[ev z0, goInt clock]) { w with heap := w.heap.setIfInBounds b (.map (es.push ⟨M.ek k, ev z0, clock⟩) (clock + 1)) } := by
      simp [Instr.mapEntry, run_underlying ht, getObj, setObj, Sem.run, hb, hck, h1, Result.andThen]
      rw [hz w]
      simp [hb]
    have e2 : (Instr.mapUpdate T (.map (some b)) (M.ek k) (ev z0)).run P w = .ok () { w with heap := w.heap.setIfInBounds b (.map (es.push ⟨M.ek k, ev z0, clock⟩) (clock + 1)) } := by
      simp [Instr.mapUpdate, run_underlying ht, getObj, setObj, Sem.run, hb, hck, h1, Result.andThen]
    obtain ⟨w', r1, r2, _⟩ := h.update ht hk z0
    have r1 := (Result.ok.inj (e2.symm.trans r1)).2
    have hrun := (Result.ok.inj (e1.symm.trans hrun)).2
    have := (r2.keep (w' := W) (by rw [hW, ← hrun, ← r1])).lookup ht hk (hz W)
    rw [look_insQ] at this
    rw [h2]
    exact this
  · have hj : es[j]? = some e' := by simpa using h2
    have hsame : es.modify j (fun e => { e with key := M.ek k }) = es := by
      apply Array.ext'
      rw [Array.toList_modify, Go.ChangeMaps.modify_eq_set _ _ _ _ h2]
      have : ({ e' with key := M.ek k } : MapEntry) = e' := by rw [← h3]
      rw [this]
      exact set_self _ _ _ h2
    have e1 : ∃ r0, (Instr.mapEntry T (.map (some b)) (M.ek k)).run P w = .ok r0 { w with heap := w.heap.setIfInBounds b (.map es clock) } := by
      refine ⟨.tuple #[ev v0, goInt e'.born], ?_⟩
      simp [Instr.mapEntry, run_underlying ht, getObj, setObj, Sem.run, hb, hck, h1, hj, h3, hst, hsame, Result.andThen]
    obtain ⟨r0, e1⟩ := e1
    have hrun := (Result.ok.inj (e1.symm.trans hrun)).2
    have := (h.keep (w' := W) (by rw [hW, ← hrun, set_same _ _ _ hlt, hb])).lookup ht hk (hz W)
    rw [h5] at this ⊢
    exact this
end
end Go.Proofs.YtgggpaacagbmcaaGreat
