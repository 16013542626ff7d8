/- Copies of journals: the document's Copy, slices.Clone at lines, entry.Copy. -/
import Derived.Test.YtacemlbfifhllaaGreatX04GatesPlay
import Derived.Test.YtacemlbfifhllaaGreatX05GatesPlay
import Derived.Lib.BufferMore
import Derived.Laws.ResultCell
set_option linter.unusedVariables false
set_option linter.unusedSimpArgs false
namespace Go.Proofs.YtacemlbfifhllaaGreat
open Go.RowKit Go.Maps

abbrev jcs (j : Jn) (a : Option Addr) (cap : Nat) : List Value := [.int .i64 j.id, .int .i64 j.en, .int .i64 j.pe, .string j.ref, .slice a j.lines.length cap, .bool j.void]
theorem jcs_inv {w : World} {F : Nat → Prop} {j : Jn} {a : Option Addr} {cap : Nat} (h : tJn.R w F (jcs j a cap) j) :
    I64 j.id ∧ I64 j.en ∧ I64 j.pe ∧ j.ref.size ≤ 140737488351232 ∧ Sl tLn w F a j.lines ∧ j.lines.length ≤ cap ∧ cap ≤ maxLen ∧ j.lines.length * Tryz.prog.bytesOf 134 ≤ 140737488351232 := by
  obtain ⟨a', cap', he, h1, h2, h3, h4, h5, h6, h7, h8⟩ := jn_inv h
  simp at he
  obtain ⟨rfl, rfl⟩ := he
  exact ⟨h1, h2, h3, h4, h5, h6, h7, h8⟩
theorem ln_free (w : World) (F G : Nat → Prop) (c : List Value) (x : Ln) (h : tLn.R w F c x) : tLn.R w G c x := by
  obtain ⟨rfl, h1, h2, h3⟩ := ln_inv h
  exact ln_mk x h1 h2 h3
theorem ln_one (w : World) (F : Nat → Prop) (c : List Value) (x : Ln) (h : tLn.R w F c x) : ∀ u ∈ c, u.oneCell' = true := by
  obtain ⟨rfl, h1, h2, h3⟩ := ln_inv h
  simp [Value.oneCell']
theorem infoL : (Tryz.prog.info? 134).map (fun i => (i.zero, i.size, i.bytes)) = some (some (.agg #[.int .i64 0, .int .i64 0, .int .i64 0]), 3, 24) := by kernel_rfl
theorem sl_some {w : World} {F : Nat → Prop} {a : Option Addr} {l : List Ln} (h : Sl tLn w F a l) (hne : l ≠ []) : ∃ ad, a = some ad := by
  cases l with
  | nil => exact absurd rfl hne
  | cons x r =>
    obtain ⟨ad, _, h, _⟩ := h 0 x rfl
    exact ⟨ad, h⟩
theorem sl_app {w W : World} {F : Nat → Prop} {a : Option Addr} {l : List Ln} (h : Sl tLn w F a l) (hb : Below w.heap.size w W) {o : Option Nat} (ho : ∀ k, o = some k → w.heap.size ≤ k) :
    Sl tLn W (fun k => some k ≠ o ∧ k < W.heap.size) a l := by
  intro i x hi
  obtain ⟨ad, ces, h1, h2, h3, h4, h5⟩ := h i x hi
  obtain ⟨ad', ces', h1', _, h3', h4', h5'⟩ := (Sl.keep (fun k hk _ => hb.block k hk) h) i x hi
  rw [h1] at h1'
  injection h1' with h1'
  subst h1'
  exact ⟨ad, ces', h1, ⟨fun e => by have := ho _ e.symm; omega, h3'⟩, h3', h4', ln_free _ _ _ _ _ h5'⟩

def CopyPost (w : World) (j : Jn) (e : Ending) (w' : World) : Prop :=
  ∃ a cap, e = .returned (jnv j a cap) ∧ Below w.heap.size w w' ∧ tJn.R w' (fun k => w.heap.size ≤ k ∧ k < w'.heap.size) (jcs j a cap) j

theorem copy_post {w w1 w2 : World} {j : Jn} {a : Option Addr} {cap : Nat} {F : Nat → Prop} (hj : tJn.R w F (jcs j a cap) j) {v : Value} (ho : OwnL tLn w1 w.heap.size v j.lines) (hb : Below w.heap.size w w2)
    (hs : w1.heap.size ≤ w2.heap.size) (hk : ∀ k, v.ownBlock = some k → w2.heap[k]? = w1.heap[k]?) : ∃ a' cap', v = .slice a' j.lines.length cap' ∧ CopyPost w j (.returned (jnv j a' cap')) w2 := by
  obtain ⟨h1, h2, h3, h4, _, _, _, h8⟩ := jcs_inv hj
  have hown := ho.lt
  obtain ⟨a', cap', rfl, h6, h7, h5⟩ := ho.slice_free ln_free
  refine ⟨a', cap', rfl, a', cap', rfl, hb, ?_⟩
  refine jn_mk j h1 h2 h3 h4 (fun i x hi => ?_) h6 h7 h8
  obtain ⟨ad, ces, rfl, hf, hl, hc, hr⟩ := h5 i x hi
  have hsame := hk _ rfl
  refine ⟨ad, ces, rfl, ⟨hf.1, Nat.lt_of_lt_of_le hl hs⟩, Nat.lt_of_lt_of_le hl hs, fun jj u hu => ?_, ln_free _ _ _ _ _ (tLn.keep (w' := w2) (F := fun _ => False) (fun _ _ h => h.elim) (ln_free _ _ _ _ _ hr))⟩
  rw [← hc jj u hu]
  exact World.cell?_of_block (w := w1) (by rw [add_block, add_block]; exact hsame)

theorem copy_end {w w1 w2 : World} {j : Jn} {a : Option Addr} {cap : Nat} {F : Nat → Prop} (hj : tJn.R w F (jcs j a cap) j) {a2 : Option Addr} {cap2 : Nat} (ho : OwnL tLn w1 w.heap.size (.slice a2 j.lines.length cap2) j.lines) (hb : Below w.heap.size w w2)
    (hs : w1.heap.size ≤ w2.heap.size) (hk : ∀ k, (Value.slice a2 j.lines.length cap2).ownBlock = some k → w2.heap[k]? = w1.heap[k]?) : CopyPost w j (.returned (jnv j a2 cap2)) w2 := by
  obtain ⟨a', cap', he, hp⟩ := copy_post hj ho hb hs hk
  injection he with e1 e2 e3
  subst e1
  subst e3
  exact hp

end Go.Proofs.YtacemlbfifhllaaGreat


/- slices.Clone at lines, entry.Copy. -/
set_option linter.unusedVariables false
set_option linter.unusedSimpArgs false
namespace Go.Proofs.YtacemlbfifhllaaGreat
open Go.RowKit Go.Maps

def ClonePost (w : World) (l : List Ln) (e : Ending) (w' : World) : Prop :=
  ∃ a cap, e = .returned (.slice a l.length cap) ∧ Below w.heap.size w w' ∧ OwnL tLn w' w.heap.size (.slice a l.length cap) l
theorem ownL_empty {P : Program} {e : TypeId} {α : Type} (T : Ty P e α) (w : World) : OwnL T (w.alloc (.cells #[] e)) w.heap.size (.slice (some ⟨w.heap.size, 0, none⟩) 0 0) [] :=
  ⟨[], ⟨by simp, .inr ⟨w.heap.size, 0, #[], rfl, Nat.le_refl _, blk_new _ _, Nat.le_refl _, Nat.zero_le _, by simp, by simp⟩⟩, rfl, by simp, by simp⟩

end Go.Proofs.YtacemlbfifhllaaGreat


/- A journal of a list, cell by cell; the document's Get, Taken. -/
set_option linter.unusedVariables false
set_option linter.unusedSimpArgs false
namespace Go.Proofs.YtacemlbfifhllaaGreat
open Go.RowKit Go.Maps

theorem jn_at {w : World} {F : Nat → Prop} {a : Option Addr} {l : List Jn} (h : Sl tJn w F a l) (i : Nat) (hi : i < l.length) :
    ∃ ad la lc, a = some ad ∧ F ad.block ∧ ad.block < w.heap.size ∧ w.cell? (ad.add (i * 6)) = some (.int .i64 l[i].id) ∧ w.cell? ⟨(ad.add (i * 6)).block, (ad.add (i * 6)).off + 1, none⟩ = some (.int .i64 l[i].en) ∧
      w.cell? ⟨(ad.add (i * 6)).block, (ad.add (i * 6)).off + 2, none⟩ = some (.int .i64 l[i].pe) ∧ w.cell? ⟨(ad.add (i * 6)).block, (ad.add (i * 6)).off + 3, none⟩ = some (.string l[i].ref) ∧
      w.cell? ⟨(ad.add (i * 6)).block, (ad.add (i * 6)).off + 4, none⟩ = some (.slice la l[i].lines.length lc) ∧ w.cell? ⟨(ad.add (i * 6)).block, (ad.add (i * 6)).off + 5, none⟩ = some (.bool l[i].void) ∧ tJn.R w F (jcs l[i] la lc) l[i] := by
  obtain ⟨ad, ces, rfl, hf, hlt, hc, hr⟩ := h i l[i] (List.getElem?_eq_getElem hi)
  obtain ⟨la, lc, rfl, h1, h2, h3, h4, h5⟩ := jn_inv hr
  rw [tJn_n] at hc
  refine ⟨ad, la, lc, rfl, hf, hlt, ?_, ?_, ?_, ?_, ?_, ?_, hr⟩
  · have := hc 0 _ rfl
    simpa [Addr.add] using this
  all_goals
    first
    | (have := hc 1 _ rfl; rw [Addr.add] at this; simpa using this; done)
    | (have := hc 2 _ rfl; rw [Addr.add] at this; simpa using this; done)
    | (have := hc 3 _ rfl; rw [Addr.add] at this; simpa using this; done)
    | (have := hc 4 _ rfl; rw [Addr.add] at this; simpa using this; done)
    | (have := hc 5 _ rfl; rw [Addr.add] at this; simpa using this; done)

abbrev jn0 : Jn := ⟨0, 0, 0, ⟨#[]⟩, [], false⟩
def hasJ (l : List Jn) (id : Int) : Bool := l.any (fun j => j.id == id)
def GetPost (w : World) (F : Nat → Prop) (l : List Jn) (id : Int) (e : Ending) (w' : World) : Prop :=
  ∃ (x : Jn) (a : Option Addr) (cap : Nat), e = .returned (.tuple #[jnv x a cap, .bool (hasJ l id)]) ∧ Below w.heap.size w w' ∧ (hasJ l id = true → l.find? (fun j => j.id == id) = some x ∧ tJn.R w' F (jcs x a cap) x)

theorem find_first {α : Type} (p : α → Bool) (l : List α) (n : Nat) (hn : n < l.length) (h0 : (l.take n).any p = false) (h1 : p l[n] = true) : l.find? p = some l[n] := by
  rw [List.find?_eq_some_iff_getElem]
  refine ⟨h1, n, hn, rfl, fun j hj => ?_⟩
  rw [List.any_eq_false] at h0
  have := h0 l[j] (by rw [List.mem_take_iff_getElem]; exact ⟨j, by omega, rfl⟩)
  simpa using this

theorem results_row_tmp {P : Program} {fn : Func} {p u : Tmp} {ty : TypeId} (h : fn.results = #[.cell p ty, .tmp u]) (tmps : Array Value) (w : World) (g : Nat) (t : TypeId) (cs : Array Value) (fr : Nat × Nat) (d : TypeDesc)
    (hp : tmps.getD p undef = .pointer (some ⟨g, 0, none⟩)) (hg : w.heap[g]? = some (.cells cs t fr))
    (hu : P.underlying ty = some d) (hd : (match d with | .struct _ | .array _ _ => true | _ => false) = true) (hi : (P.info? ty).map (·.size) = some cs.size) :
    (results fn tmps).run P w = .ok (.tuple #[.agg cs, tmps.getD u undef]) w := by
  rw [results_cell_tmp h, hp]
  simp [asAddr, run_loadVar_row w g t ty cs fr d hg hu hd hi, Result.andThen]
theorem six (w : World) (b : Nat) {t : TypeId} {x0 x1 x2 x3 x4 x5 : Value} (h : w.heap[b]? = some (.cells #[x0, x1, x2, x3, x4, x5] t (0, 0))) (v0 v1 v2 v3 v4 v5 : Value) :
    ∃ w4, ((((((w.setCell ⟨b, 0, none⟩ v0).setCell ⟨b, 1, none⟩ v1).setCell ⟨b, 2, none⟩ v2).setCell ⟨b, 3, none⟩ v3).setCell ⟨b, 4, none⟩ v4).setCell ⟨b, 5, none⟩ v5) = w4 ∧ w4.heap[b]? = some (.cells #[v0, v1, v2, v3, v4, v5] t (0, 0)) ∧ w4.heap.size = w.heap.size ∧
      (∀ k, k ≠ b → w4.heap[k]? = w.heap[k]?) ∧ (∀ B w0, Below B w0 w → B ≤ b → Below B w0 w4) := by
  refine ⟨_, rfl, ?_, by simp, fun k hk => ?_, fun B w0 hb hB => ?_⟩
  · have := blk_set (blk_set (blk_set (blk_set (blk_set (blk_set h 0 v0) 1 v1) 2 v2) 3 v3) 4 v4) 5 v5
    simpa using this
  · iterate 6 (rw [Below.heap_setCell _ _ _ k hk])
  · iterate 6 (refine Below.setCell ?_ hB _)
    exact hb

end Go.Proofs.YtacemlbfifhllaaGreat


/- The document's Taken. -/
set_option linter.unusedVariables false
set_option linter.unusedSimpArgs false
namespace Go.Proofs.YtacemlbfifhllaaGreat
open Go.RowKit Go.Maps

def clash (j x : Jn) : Bool := x.id != j.id && (!x.void && (x.ref.toList == j.ref.toList && x.en == j.en))
def takenJ (l : List Jn) (j : Jn) : Bool := !j.ref.toList.isEmpty && (!j.void && l.any (clash j))
theorem clash_cases {j x : Jn} {b : Bool} (h : clash j x = b) : (b = false ∧ ((x.id != j.id) = false ∨ (x.id != j.id) = true ∧ (x.void = true ∨ x.void = false ∧ ((x.ref.toList == j.ref.toList) = false ∨ (x.ref.toList == j.ref.toList) = true ∧ (x.en == j.en) = false)))) ∨
    (b = true ∧ (x.id != j.id) = true ∧ x.void = false ∧ (x.ref.toList == j.ref.toList) = true ∧ (x.en == j.en) = true) := by
  subst h
  unfold clash
  cases x.id != j.id <;> cases x.void <;> cases x.ref.toList == j.ref.toList <;> cases x.en == j.en <;> simp

end Go.Proofs.YtacemlbfifhllaaGreat


/- The document's Post. -/
set_option linter.unusedVariables false
set_option linter.unusedSimpArgs false
namespace Go.Proofs.YtacemlbfifhllaaGreat
open Go.RowKit Go.Maps

def postJ (l : List Jn) (j : Jn) : Int := if chk j != 0 then chk j else if hasJ l j.id then 7 else if takenJ l j then 8 else if decide (200 ≤ (l.length : Int)) then 13 else 0
theorem post_cases (l : List Jn) (j : Jn) : (chk j != 0) = true ∧ postJ l j = chk j ∨ (chk j != 0) = false ∧ (hasJ l j.id = true ∧ postJ l j = 7 ∨ hasJ l j.id = false ∧ (takenJ l j = true ∧ postJ l j = 8 ∨ takenJ l j = false ∧ (200 ≤ (l.length : Int) ∧ postJ l j = 13 ∨ (l.length : Int) < 200 ∧ postJ l j = 0))) := by
  unfold postJ
  cases h1 : chk j != 0
  · cases h2 : hasJ l j.id
    · cases h3 : takenJ l j
      · by_cases h4 : 200 ≤ (l.length : Int)
        · simp [h4]
        · simp [h4]; omega
      · simp
    · simp
  · simp

end Go.Proofs.YtacemlbfifhllaaGreat


/- The document's Put: the plain side, and one journal as a slice. -/
set_option linter.unusedVariables false
set_option linter.unusedSimpArgs false
namespace Go.Proofs.YtacemlbfifhllaaGreat
open Go.RowKit Go.Maps

theorem infoJ : (Tryz.prog.info? 120).map (fun i => (i.zero, i.size, i.bytes)) = some (some (.agg #[.int .i64 0, .int .i64 0, .int .i64 0, .string ⟨#[]⟩, .slice none 0 0, .bool false]), 6, 72) := by kernel_rfl
theorem jn_one (w : World) (F : Nat → Prop) (c : List Value) (x : Jn) (h : tJn.R w F c x) : ∀ u ∈ c, u.oneCell' = true := by
  obtain ⟨a, cap, rfl, _⟩ := jn_inv h
  simp [Value.oneCell']
/-- one journal in a new block of its own, as append takes it -/
theorem sl_oneJ {w : World} {F : Nat → Prop} {b : Nat} {j : Jn} {a : Option Addr} {cap : Nat} (hb : w.heap[b]? = some (.cells #[.int .i64 j.id, .int .i64 j.en, .int .i64 j.pe, .string j.ref, .slice a j.lines.length cap, .bool j.void] 120 (0, 0)))
    (hF : F b) (hr : tJn.R w F (jcs j a cap) j) : Sl tJn w F (some ⟨b, 0, none⟩) [j] := by
  intro i x hi
  cases i with
  | succ i => simp at hi
  | zero =>
    simp at hi
    subst hi
    refine ⟨_, jcs j a cap, rfl, hF, (Array.getElem?_eq_some_iff.1 hb).1, fun k u hu => ?_, hr⟩
    rw [Nat.zero_mul, Go.Addr.add_add, Nat.zero_add]
    have : (⟨b, 0, none⟩ : Addr).add k = ⟨b, k, none⟩ := by unfold Addr.add; split <;> simp_all
    rw [this, cell_of_row w b k _ 120 (0, 0) hb]
    simpa using hu

def putStep (j : Jn) (s : List Jn × Bool) (x : Jn) : List Jn × Bool :=
  let t := if !s.2 && decide (j.id ≤ x.id) then (s.1 ++ [j], true) else s
  if x.id != j.id then (t.1 ++ [x], t.2) else t
def putS (j : Jn) (l : List Jn) : List Jn × Bool := l.foldl (putStep j) ([], false)
def putJ (l : List Jn) (j : Jn) : List Jn := if (putS j l).2 then (putS j l).1 else (putS j l).1 ++ [j]
theorem putS_succ (j : Jn) (l : List Jn) (n : Nat) (hn : n < l.length) : putS j (l.take (n + 1)) = putStep j (putS j (l.take n)) l[n] := by
  unfold putS
  rw [List.take_succ_eq_append_getElem hn, List.foldl_append]
  rfl
theorem putStep_len (j : Jn) (s : List Jn × Bool) (x : Jn) : (putStep j s x).1.length + (if s.2 then 1 else 0) ≤ s.1.length + 1 + (if (putStep j s x).2 then 1 else 0) := by
  unfold putStep
  obtain ⟨o, d⟩ := s
  cases d <;> by_cases h1 : j.id ≤ x.id <;> cases h2 : x.id != j.id <;> simp [h1, h2]
theorem putS_len (j : Jn) : ∀ (l : List Jn), (putS j l).1.length ≤ l.length + (if (putS j l).2 then 1 else 0) := by
  intro l
  have : ∀ n, n ≤ l.length → (putS j (l.take n)).1.length ≤ n + (if (putS j (l.take n)).2 then 1 else 0) := by
    intro n
    induction n with
    | zero => intro _; simp [putS]
    | succ n ih =>
      intro hn
      have h1 := ih (by omega)
      rw [putS_succ j l n (by omega)]
      have h2 := putStep_len j (putS j (l.take n)) l[n]
      omega
  have h := this l.length (Nat.le_refl _)
  rwa [List.take_length] at h
theorem putS_take_len (j : Jn) (l : List Jn) (n : Nat) (hn : n ≤ l.length) : (putS j (l.take n)).1.length ≤ l.length + 1 := by
  have h := putS_len j (l.take n)
  rw [List.length_take] at h
  split at h <;> omega
end Go.Proofs.YtacemlbfifhllaaGreat
