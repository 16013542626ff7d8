/- Typed readings of what lies in memory: how an integer, a text, a struct, a list of such is read off cells; every argument that the row can read is read so. -/
import Derived.Deep.Slices
import Derived.Below
import Derived.SizedLaws
import Derived.ChangeSlices
import Derived.WideShapes
set_option linter.unusedVariables false
set_option linter.unusedSimpArgs false
namespace Go.Proofs.YtacemlbfifhllaaGreat
open Go.RowKit Go.Deep

/-- How a value of type t lies in cells, and what it is in plain words. -/
structure Ty (P : Program) (t : TypeId) (α : Type) where
  n : Nat
  R : World → (Nat → Prop) → List Value → α → Prop
  hn : P.cellsOf t = n
  len : ∀ {w : World} {F : Nat → Prop} {cs : List Value} {x : α}, R w F cs x → cs.length = n
  keep : ∀ {w w' : World} {F : Nat → Prop} {cs : List Value} {x : α}, (∀ k, k < w.heap.size → F k → w'.heap[k]? = w.heap[k]?) → R w F cs x → R w' F cs x
  mono : ∀ {w : World} {F G : Nat → Prop} {cs : List Value} {x : α}, (∀ k, k < w.heap.size → F k → G k) → R w F cs x → R w G cs x
  of : ∀ {H : Type} {enc : TypeId × Value → H} {w : World} {fuel : Nat} {cs : List Value} {d : DataW H} {ps : List MemPlace},
    DataW.trod enc P w 0 (fun _ => true) true fuel t cs = some (d, ps) → (d.weights P t).all (· ≤ reachBytes) = true → ∃ x, R w (fun _ => True) cs x

def Ty.int (P : Program) (t : TypeId) (k : IntKind) (h : P.underlying t = some (.int k)) (hn : P.cellsOf t = 1) : Ty P t Int where
  n := 1
  R := fun _ _ cs x => cs = [.int k x] ∧ (Lit.int k x).wf = true
  hn := hn
  len := by rintro _ _ _ _ ⟨rfl, _⟩; rfl
  keep := fun _ h => h
  mono := fun _ h => h
  of := by
    intro H enc w fuel cs d ps h1 _
    obtain ⟨x, rfl, _, hw⟩ := DataW.trod_int h h1
    exact ⟨x, rfl, hw⟩

def Ty.bool (P : Program) (t : TypeId) (h : P.underlying t = some .bool) (hn : P.cellsOf t = 1) : Ty P t Bool where
  n := 1
  R := fun _ _ cs x => cs = [.bool x]
  hn := hn
  len := by rintro _ _ _ _ rfl; rfl
  keep := fun _ h => h
  mono := fun _ h => h
  of := by
    intro H enc w fuel cs d ps h1 _
    obtain ⟨x, rfl, _⟩ := DataW.trod_bool h h1
    exact ⟨x, rfl⟩

def Ty.str (P : Program) (t : TypeId) (h : P.underlying t = some .string) (hn : P.cellsOf t = 1) : Ty P t ByteArray where
  n := 1
  R := fun _ _ cs x => cs = [.string x] ∧ x.size ≤ 140737488351232
  hn := hn
  len := by rintro _ _ _ _ ⟨rfl, _⟩; rfl
  keep := fun _ h => h
  mono := fun _ h => h
  of := by
    intro H enc w fuel cs d ps h1 h2
    obtain ⟨x, rfl, hd, _⟩ := DataW.trod_string h h1
    obtain ⟨rfl, _⟩ := Prod.mk.inj hd
    refine ⟨x, rfl, ?_⟩
    simp [DataW.weights, reachBytes] at h2
    exact of_decide_eq_true h2

/-- The fields of a struct, from an offset on. -/
structure Flds (P : Program) (fs : List Field) (off : Nat) (β : Type) where
  n : Nat
  R : World → (Nat → Prop) → List Value → β → Prop
  len : ∀ {w : World} {F : Nat → Prop} {cs : List Value} {x : β}, R w F cs x → cs.length = n
  keep : ∀ {w w' : World} {F : Nat → Prop} {cs : List Value} {x : β}, (∀ k, k < w.heap.size → F k → w'.heap[k]? = w.heap[k]?) → R w F cs x → R w' F cs x
  mono : ∀ {w : World} {F G : Nat → Prop} {cs : List Value} {x : β}, (∀ k, k < w.heap.size → F k → G k) → R w F cs x → R w G cs x
  of : ∀ {H : Type} {enc : TypeId × Value → H} {w : World} {fuel : Nat} {cs : List Value},
    (∀ (i : Nat) (f : Field), fs[i]? = some f → ∃ d ps, DataW.trod enc P w 0 (fun _ => true) true fuel f.type ((cs.drop f.offset).take (P.cellsOf f.type)) = some (d, ps) ∧ (d.weights P f.type).all (· ≤ reachBytes) = true) →
    ∃ x, R w (fun _ => True) ((cs.drop off).take n) x

def Flds.nil (P : Program) (off : Nat) : Flds P [] off Unit where
  n := 0
  R := fun _ _ cs _ => cs = []
  len := by rintro _ _ _ _ rfl; rfl
  keep := fun _ h => h
  mono := fun _ h => h
  of := fun _ => ⟨(), by simp⟩

def Flds.cons {P : Program} {f : Field} {fs : List Field} {off : Nat} {α β : Type} (T : Ty P f.type α) (ho : f.offset = off) (F : Flds P fs (off + T.n) β) : Flds P (f :: fs) off (α × β) where
  n := T.n + F.n
  R := fun w S cs x => ∃ c1 c2, cs = c1 ++ c2 ∧ T.R w S c1 x.1 ∧ F.R w S c2 x.2
  len := by
    rintro _ _ _ _ ⟨c1, c2, rfl, h1, h2⟩
    rw [List.length_append, T.len h1, F.len h2]
  keep := by
    rintro _ _ _ _ _ hb ⟨c1, c2, rfl, h1, h2⟩
    exact ⟨c1, c2, rfl, T.keep hb h1, F.keep hb h2⟩
  mono := by
    rintro _ _ _ _ _ hb ⟨c1, c2, rfl, h1, h2⟩
    exact ⟨c1, c2, rfl, T.mono hb h1, F.mono hb h2⟩
  of := by
    intro H enc w fuel cs h
    obtain ⟨d, ps, h1, h2⟩ := h 0 f rfl
    obtain ⟨x, hx⟩ := T.of h1 h2
    obtain ⟨y, hy⟩ := F.of (cs := cs) (fun i g hg => h (i + 1) g hg)
    rw [T.hn, ho] at hx
    refine ⟨(x, y), _, _, ?_, hx, hy⟩
    rw [List.take_add, List.drop_drop]

theorem all_each {H : Type} (P : Program) : ∀ (ts : List TypeId) (ds : List (DataW H)), (DataW.weightsEach P ts ds).all (· ≤ reachBytes) = true →
    ∀ (i : Nat) (t : TypeId) (d : DataW H), ts[i]? = some t → ds[i]? = some d → (d.weights P t).all (· ≤ reachBytes) = true
  | [], _, _, i, t, d, ht, _ => by simp at ht
  | _ :: _, [], _, i, t, d, _, hd => by simp at hd
  | t0 :: ts, d0 :: ds, h, i, t, d, ht, hd => by
    simp only [DataW.weightsEach, List.all_append, Bool.and_eq_true] at h
    cases i with
    | zero => simp at ht hd; subst ht; subst hd; exact h.1
    | succ i => exact all_each P ts ds h.2 i t d (by simpa using ht) (by simpa using hd)
theorem all_all {H : Type} (P : Program) (e : TypeId) : ∀ (ds : List (DataW H)), (DataW.weightsAll P e ds).all (· ≤ reachBytes) = true →
    ∀ d ∈ ds, (d.weights P e).all (· ≤ reachBytes) = true
  | [], _, d, hd => by simp at hd
  | d0 :: ds, h, d, hd => by
    simp only [DataW.weightsAll, List.all_append, Bool.and_eq_true] at h
    rcases List.mem_cons.1 hd with rfl | hd
    · exact h.1
    · exact all_all P e ds h.2 d hd

def Ty.struct {P : Program} {t : TypeId} {β : Type} {fs : Array Field} (h : P.underlying t = some (.struct fs)) (F : Flds P fs.toList 0 β) (hn : P.cellsOf t = F.n) : Ty P t β where
  n := F.n
  R := F.R
  hn := hn
  len := F.len
  keep := F.keep
  mono := F.mono
  of := by
    intro H enc w fuel cs d ps h1 h2
    obtain ⟨xs, n, rfl, hx, hl, hxl, hf⟩ := DataW.trod_struct h h1
    obtain ⟨rfl, _⟩ := Prod.mk.inj hx
    simp only [DataW.weights, h] at h2
    obtain ⟨y, hy⟩ := F.of (enc := enc) (w := w) (fuel := n) (cs := cs) (fun i f hif => by
      have hif' : fs[i]? = some f := by simpa using hif
      have hlt : i < fs.size := (Array.getElem?_eq_some_iff.1 hif').1
      have hx1 := hf i f hif'
      have hlt' : i < xs.length := by omega
      refine ⟨xs[i].1, xs[i].2, ?_, ?_⟩
      · rw [hx1, List.getElem?_eq_getElem hlt']
      · refine all_each P _ _ h2 i f.type xs[i].1 ?_ ?_
        · simp [hif']
        · simp [hlt'])
    refine ⟨y, ?_⟩
    rwa [List.drop_zero, List.take_of_length_le (by omega)] at hy

def Ty.map {P : Program} {t : TypeId} {α β : Type} (T : Ty P t α) (f : α → β) : Ty P t β where
  n := T.n
  R := fun w S cs y => ∃ x, y = f x ∧ T.R w S cs x
  hn := T.hn
  len := by rintro _ _ _ _ ⟨x, _, h⟩; exact T.len h
  keep := by rintro _ _ _ _ _ hb ⟨x, e, h⟩; exact ⟨x, e, T.keep hb h⟩
  mono := by rintro _ _ _ _ _ hb ⟨x, e, h⟩; exact ⟨x, e, T.mono hb h⟩
  of := by
    intro H enc w fuel cs d ps h1 h2
    obtain ⟨x, hx⟩ := T.of h1 h2
    exact ⟨f x, x, rfl, hx⟩

/-- A list that lies in memory from an address on, element behind element; all of it in blocks of F. -/
def Sl {P : Program} {e : TypeId} {α : Type} (T : Ty P e α) (w : World) (F : Nat → Prop) (a : Option Addr) (xs : List α) : Prop :=
  ∀ i x, xs[i]? = some x → ∃ ad ces, a = some ad ∧ F ad.block ∧ ad.block < w.heap.size ∧ (∀ j v, ces[j]? = some v → w.cell? ((ad.add (i * T.n)).add j) = some v) ∧ T.R w F ces x

theorem add_block (a : Addr) (n : Nat) : (a.add n).block = a.block := by unfold Addr.add; split <;> rfl
theorem Sl.keep {P : Program} {e : TypeId} {α : Type} {T : Ty P e α} {w w' : World} {F : Nat → Prop} {a : Option Addr} {xs : List α} (hb : ∀ k, k < w.heap.size → F k → w'.heap[k]? = w.heap[k]?) (h : Sl T w F a xs) : Sl T w' F a xs := by
  intro i x hx
  obtain ⟨ad, ces, ha, hf, hlt, hc, hr⟩ := h i x hx
  have hs := hb ad.block hlt hf
  have hlt' : ad.block < w'.heap.size := by
    rcases Nat.lt_or_ge ad.block w'.heap.size with h | h
    · exact h
    · rw [Array.getElem?_eq_none h, Array.getElem?_eq_getElem hlt] at hs; cases hs
  refine ⟨ad, ces, ha, hf, hlt', fun j v hv => ?_, T.keep hb hr⟩
  rw [← hc j v hv]
  exact World.cell?_of_block (w := w) (by rw [add_block, add_block]; exact hs)
theorem Sl.mono {P : Program} {e : TypeId} {α : Type} {T : Ty P e α} {w : World} {F G : Nat → Prop} {a : Option Addr} {xs : List α} (hb : ∀ k, k < w.heap.size → F k → G k) (h : Sl T w F a xs) : Sl T w G a xs := by
  intro i x hx
  obtain ⟨ad, ces, ha, hf, hlt, hc, hr⟩ := h i x hx
  exact ⟨ad, ces, ha, hb _ hlt hf, hlt, hc, T.mono hb hr⟩

def Ty.slice {P : Program} {t e : TypeId} {α : Type} (h : P.underlying t = some (.slice e)) (hn : P.cellsOf t = 1) (T : Ty P e α) (hpos : 0 < T.n) : Ty P t (List α) where
  n := 1
  R := fun w F cs xs => ∃ a cap, cs = [.slice a xs.length cap] ∧ Sl T w F a xs ∧ xs.length ≤ cap ∧ cap ≤ maxLen ∧ xs.length * P.bytesOf e ≤ 140737488351232
  hn := hn
  len := by rintro _ _ _ _ ⟨a, cap, rfl, _⟩; rfl
  keep := by rintro _ _ _ _ _ hb ⟨a, cap, rfl, h1, h2⟩; exact ⟨a, cap, rfl, h1.keep hb, h2⟩
  mono := by rintro _ _ _ _ _ hb ⟨a, cap, rfl, h1, h2⟩; exact ⟨a, cap, rfl, h1.mono hb, h2⟩
  of := by
    intro H enc w fuel cs d ps h1 h2
    rcases open_slice h h1 with ⟨rfl, hx⟩ | ⟨a, len, cap, m, n, D, Pl, rfl, hb, hl, hm, hmm, hx, hel⟩
    · exact ⟨[], none, 0, rfl, fun i x hi => by simp at hi, by simp, by simp, by simp⟩
    · obtain ⟨rfl, _⟩ := Prod.mk.inj hx
      simp only [DataW.weights, h] at h2
      simp only [if_true] at hmm
      subst hmm
      simp only [List.all_cons, List.all_append, Bool.and_eq_true, decide_eq_true_eq, List.length_map, List.length_range] at h2
      have hall : ∀ i, i < len → ((D i).weights P e).all (· ≤ reachBytes) = true := fun i hi =>
        all_all P e _ h2.2.1 (D i) (List.mem_map.2 ⟨i, List.mem_range.2 hi, rfl⟩)
      have hex : ∀ i, i < len → ∃ x, ∃ ces, (∀ j v, ces[j]? = some v → w.cell? ((a.add (i * T.n)).add j) = some v) ∧ T.R w (fun _ => True) ces x := fun i hi => by
        obtain ⟨cs', hc1, hc2⟩ := hel i (by omega)
        obtain ⟨x, hx⟩ := T.of hc2 (hall i hi)
        obtain ⟨_, hlen, hcell⟩ := World.cells?_some hc1
        refine ⟨x, cs', fun j v hv => ?_, hx⟩
        have hj : j < P.cellsOf e := by rw [← hlen]; exact (List.getElem?_eq_some_iff.1 hv).1
        have := hcell j hj
        rw [T.hn] at this
        rw [this, hv]
      have hlen : ∃ xs : List α, xs.length = len ∧ ∀ i x, xs[i]? = some x → ∃ ces, (∀ j v, ces[j]? = some v → w.cell? ((a.add (i * T.n)).add j) = some v) ∧ T.R w (fun _ => True) ces x := by
        clear hx h2 hall hel h1
        have : ∀ k, k ≤ len → ∃ xs : List α, xs.length = k ∧ ∀ i x, xs[i]? = some x → ∃ ces, (∀ j v, ces[j]? = some v → w.cell? ((a.add (i * T.n)).add j) = some v) ∧ T.R w (fun _ => True) ces x := by
          intro k
          induction k with
          | zero => exact fun _ => ⟨[], rfl, fun i x hx => by simp at hx⟩
          | succ k ih =>
            intro hk
            obtain ⟨xs, hl, hxs⟩ := ih (by omega)
            obtain ⟨x, hx⟩ := hex k (by omega)
            refine ⟨xs ++ [x], by simp [hl], fun i y hy => ?_⟩
            by_cases hi : i < xs.length
            · rw [List.getElem?_append_left hi] at hy
              exact hxs i y hy
            · have hik : i = k := by
                have := (List.getElem?_eq_some_iff.1 hy).1
                simp at this
                omega
              subst hik
              rw [List.getElem?_append_right (by omega), hl] at hy
              simp at hy
              subst hy
              exact hx
        exact this len (Nat.le_refl _)
      obtain ⟨xs, hxl, hxs⟩ := hlen
      refine ⟨xs, some a, m, by rw [hxl], fun i x hi => ?_, by omega, hm, ?_⟩
      · obtain ⟨ces, h3, h4⟩ := hxs i x hi
        have hi' : i < len := by have := (List.getElem?_eq_some_iff.1 hi).1; omega
        obtain ⟨cs', hc1, hc2⟩ := hel i (by omega)
        obtain ⟨_, hlen, hcell⟩ := World.cells?_some hc1
        have h0 := hcell 0 (by rw [T.hn]; exact hpos)
        have hl0 : 0 < cs'.length := by rw [hlen, T.hn]; exact hpos
        rw [List.getElem?_eq_getElem hl0] at h0
        have hlt := World.block_lt_of_cell? w _ h0
        rw [add_block, add_block] at hlt
        exact ⟨a, ces, rfl, trivial, hlt, h3, h4⟩
      · have := h2.1
        unfold reachBytes at this
        rw [hxl]
        refine Nat.le_trans (Nat.mul_le_mul_right _ ?_) this
        omega
end Go.Proofs.YtacemlbfifhllaaGreat
