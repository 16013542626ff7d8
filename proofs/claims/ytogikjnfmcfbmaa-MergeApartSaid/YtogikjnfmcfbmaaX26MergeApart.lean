/- merge: the three journals of a number, fetched in whatever order. -/
import Derived.Test.YtogikjnfmcfbmaaX24MergeApart
import Derived.Test.YtogikjnfmcfbmaaX25MergeApart
set_option linter.unusedVariables false
set_option linter.unusedSimpArgs false
namespace Go.Proofs.Ytogikjnfmcfbmaa
open Go.RowKit Go.Maps

abbrev ptr (b : Nat) : Value := .pointer (some ⟨b, 0, none⟩)
/-- blocks of the call's own that no variable lies in -/
def farF (B : Nat) (x6 x7 x8 : Value) (k : Nat) : Prop := B ≤ k ∧ x6 ≠ ptr k ∧ x7 ≠ ptr k ∧ x8 ≠ ptr k
def CR (B : Nat) (w : World) (x6 x7 x8 y : Value) (j : Jn) : Prop := ∃ a c, y = jnv j a c ∧ tJn.R w (farF B x6 x7 x8) (jcs j a c) j
def PZ (B : Nat) (w : World) (x : Value) : Prop := ∃ b y0 y1 y2 y3 y4 y5, x = ptr b ∧ B ≤ b ∧ w.heap[b]? = some (.cells #[y0, y1, y2, y3, y4, y5] 31 (0, 0))
def SJ (B : Nat) (w : World) (x6 x7 x8 x : Value) (j : Jn) : Prop := ∃ b a c, x = ptr b ∧ B ≤ b ∧ w.heap[b]? = some (.cells #[.int .i64 j.id, .int .i64 j.en, .int .i64 j.pe, .string j.ref, .slice a j.lines.length c, .bool j.void] 31 (0, 0)) ∧ tJn.R w (farF B x6 x7 x8) (jcs j a c) j

structure OneI (B : Nat) (w0 : World) (sv idv : Value) (j0 j1 j2 : Jn) (d : Nat → Bool) (w : World) (x6 x7 x8 x9 x10 x11 x12 x13 x14 x15 x16 x17 : Value) : Prop where
  bel : Below B w0 w
  l9 : d 0 = true → x9 = sv
  m10 : d 1 = true → x10 = idv
  c11 : d 2 = true → CR B w x6 x7 x8 x11 j0
  l12 : d 3 = true → x12 = sv
  m13 : d 4 = true → x13 = idv
  c14 : d 5 = true → CR B w x6 x7 x8 x14 j1
  l15 : d 6 = true → x15 = sv
  m16 : d 7 = true → x16 = idv
  c17 : d 8 = true → CR B w x6 x7 x8 x17 j2
  u6 : d 9 = false → x6 = undef
  a6 : d 9 = true → PZ B w x6
  u7 : d 10 = false → x7 = undef
  a7 : d 10 = true → PZ B w x7
  u8 : d 11 = false → x8 = undef
  a8 : d 11 = true → PZ B w x8
  n67 : d 9 = true → x6 ≠ x7
  n68 : d 9 = true → x6 ≠ x8
  n78 : d 10 = true → x7 ≠ x8
  q12 : d 12 = true → d 9 = true ∧ d 10 = true ∧ d 11 = true
  q13 : d 13 = true → d 12 = true
  q14 : d 14 = true → d 13 = true
  s6 : d 12 = true → SJ B w x6 x7 x8 x6 j0
  s7 : d 13 = true → SJ B w x6 x7 x8 x7 j1
  s8 : d 14 = true → SJ B w x6 x7 x8 x8 j2

section
variable {B : Nat} {w0 w w' : World} {sv idv : Value} {j0 j1 j2 j : Jn} {d : Nat → Bool} {x6 x7 x8 x9 x10 x11 x12 x13 x14 x15 x16 x17 x y : Value}
theorem CR.below (h : CR B w x6 x7 x8 y j) (hb : Below w.heap.size w w') : CR B w' x6 x7 x8 y j := by
  obtain ⟨a, c, h1, h2⟩ := h
  exact ⟨a, c, h1, tJn.keep (fun k hk _ => hb.block k hk) h2⟩
theorem PZ.below (h : PZ B w x) (hb : Below w.heap.size w w') : PZ B w' x := by
  obtain ⟨b, y0, y1, y2, y3, y4, y5, h1, h2, h3⟩ := h
  exact ⟨b, y0, y1, y2, y3, y4, y5, h1, h2, blk_below h3 hb⟩
theorem SJ.below (h : SJ B w x6 x7 x8 x j) (hb : Below w.heap.size w w') : SJ B w' x6 x7 x8 x j := by
  obtain ⟨b, a, c, h1, h2, h3, h4⟩ := h
  exact ⟨b, a, c, h1, h2, blk_below h3 hb, tJn.keep (fun k hk _ => hb.block k hk) h4⟩
theorem PZ.far (h : PZ B w x) {k : Nat} (hk : w.heap.size ≤ k) : x ≠ ptr k := by
  obtain ⟨b, _, _, _, _, _, _, rfl, _, h3⟩ := h
  have := blk_lt h3
  intro e
  simp [ptr] at e <;> omega
theorem OneI.grow (H : OneI B w0 sv idv j0 j1 j2 d w x6 x7 x8 x9 x10 x11 x12 x13 x14 x15 x16 x17) (hb : Below w.heap.size w w') (hB : B ≤ w.heap.size) : OneI B w0 sv idv j0 j1 j2 d w' x6 x7 x8 x9 x10 x11 x12 x13 x14 x15 x16 x17 :=
  ⟨H.bel.trans (hb.mono hB), H.l9, H.m10, fun h => (H.c11 h).below hb, H.l12, H.m13, fun h => (H.c14 h).below hb, H.l15, H.m16, fun h => (H.c17 h).below hb, H.u6, fun h => (H.a6 h).below hb, H.u7, fun h => (H.a7 h).below hb, H.u8, fun h => (H.a8 h).below hb, H.n67, H.n68, H.n78, H.q12, H.q13, H.q14, fun h => (H.s6 h).below hb, fun h => (H.s7 h).below hb, fun h => (H.s8 h).below hb⟩
theorem OneI.far (H : OneI B w0 sv idv j0 j1 j2 d w x6 x7 x8 x9 x10 x11 x12 x13 x14 x15 x16 x17) {k : Nat} (hk : w.heap.size ≤ k) (hB : B ≤ k) : farF B x6 x7 x8 k := by
  refine ⟨hB, ?_, ?_, ?_⟩
  · cases h : d 9 with
    | true => exact (H.a6 h).far hk
    | false => rw [H.u6 h]; simp [undef]
  · cases h : d 10 with
    | true => exact (H.a7 h).far hk
    | false => rw [H.u7 h]; simp [undef]
  · cases h : d 11 with
    | true => exact (H.a8 h).far hk
    | false => rw [H.u8 h]; simp [undef]
theorem new_far (k : Nat) (hk : k < w.heap.size) : ptr w.heap.size ≠ ptr k := by
  intro e
  simp [ptr] at e <;> omega
theorem CR.new6 (h : CR B w x6 x7 x8 y j) (o : Obj) : CR B (w.alloc o) (ptr w.heap.size) x7 x8 y j := by
  obtain ⟨a, c, h1, h2⟩ := h
  exact ⟨a, c, h1, tJn.keep (fun k hk _ => Below.heap_alloc w o k hk) (tJn.mono (fun k hk hf => ⟨hf.1, new_far k hk, hf.2.2.1, hf.2.2.2⟩) h2)⟩
theorem CR.new7 (h : CR B w x6 x7 x8 y j) (o : Obj) : CR B (w.alloc o) x6 (ptr w.heap.size) x8 y j := by
  obtain ⟨a, c, h1, h2⟩ := h
  exact ⟨a, c, h1, tJn.keep (fun k hk _ => Below.heap_alloc w o k hk) (tJn.mono (fun k hk hf => ⟨hf.1, hf.2.1, new_far k hk, hf.2.2.2⟩) h2)⟩
theorem CR.new8 (h : CR B w x6 x7 x8 y j) (o : Obj) : CR B (w.alloc o) x6 x7 (ptr w.heap.size) y j := by
  obtain ⟨a, c, h1, h2⟩ := h
  exact ⟨a, c, h1, tJn.keep (fun k hk _ => Below.heap_alloc w o k hk) (tJn.mono (fun k hk hf => ⟨hf.1, hf.2.1, hf.2.2.1, new_far k hk⟩) h2)⟩
theorem PZ.new (hB : B ≤ w.heap.size) (y0 y1 y2 y3 y4 y5 : Value) : PZ B (w.alloc (.cells #[y0, y1, y2, y3, y4, y5] 31)) (ptr w.heap.size) := ⟨_, y0, y1, y2, y3, y4, y5, rfl, hB, blk_new w _⟩
theorem PZ.ne_undef (h : PZ B w x) : x ≠ undef := by
  obtain ⟨b, _, _, _, _, _, _, rfl, _⟩ := h
  simp [ptr, undef]

/-- a store into a variable's block -/
structure St6 (w w' : World) (b : Nat) : Prop where
  size : w'.heap.size = w.heap.size
  other : ∀ k, k ≠ b → w'.heap[k]? = w.heap[k]?
  bel : ∀ B w0, Below B w0 w → B ≤ b → Below B w0 w'
theorem CR.store {b : Nat} (h : CR B w x6 x7 x8 y j) (hs : St6 w w' b) (hx : ∀ k, farF B x6 x7 x8 k → k ≠ b) : CR B w' x6 x7 x8 y j := by
  obtain ⟨a, c, h1, h2⟩ := h
  exact ⟨a, c, h1, tJn.keep (fun k hk hf => hs.other k (hx k hf)) h2⟩
theorem PZ.store {b : Nat} (h : PZ B w x) (hs : St6 w w' b) (hx : x ≠ ptr b) : PZ B w' x := by
  obtain ⟨b', y0, y1, y2, y3, y4, y5, rfl, h2, h3⟩ := h
  exact ⟨b', y0, y1, y2, y3, y4, y5, rfl, h2, (hs.other b' (fun e => hx (by rw [e]))).trans h3⟩
theorem SJ.store {b : Nat} (h : SJ B w x6 x7 x8 x j) (hs : St6 w w' b) (hx : x ≠ ptr b) (hf : ∀ k, farF B x6 x7 x8 k → k ≠ b) : SJ B w' x6 x7 x8 x j := by
  obtain ⟨b', a, c, rfl, h2, h3, h4⟩ := h
  exact ⟨b', a, c, rfl, h2, (hs.other b' (fun e => hx (by rw [e]))).trans h3, tJn.keep (fun k hk h => hs.other k (hf k h)) h4⟩
end

/-- the region's state -/
def OneS (B : Nat) (w0 : World) (sv idv p2 p4 : Value) (j0 j1 j2 : Jn) (d : Nat → Bool) (a : Act) (w : World) : Prop :=
  ∃ x6 x7 x8 x9 x10 x11 x12 x13 x14 x15 x16 x17, a = { tmps := #[sv, idv, p2, undef, p4, .int .i64 0, x6, x7, x8, x9, x10, x11, x12, x13, x14, x15, x16, x17, undef, undef, undef, undef, undef, undef, undef, undef, undef, undef, undef, undef, undef, undef, undef, undef, undef, undef, undef, undef, undef], defers := [] } ∧
    OneI B w0 sv idv j0 j1 j2 d w x6 x7 x8 x9 x10 x11 x12 x13 x14 x15 x16 x17
theorem OneS.congr {B : Nat} {w0 w : World} {sv idv p2 p4 : Value} {j0 j1 j2 : Jn} {d d' : Nat → Bool} {a : Act} (h : ∀ i, i < 15 → d i = d' i) (H : OneS B w0 sv idv p2 p4 j0 j1 j2 d a w) : OneS B w0 sv idv p2 p4 j0 j1 j2 d' a w := by
  obtain ⟨x6, x7, x8, x9, x10, x11, x12, x13, x14, x15, x16, x17, ha, H⟩ := H
  refine ⟨x6, x7, x8, x9, x10, x11, x12, x13, x14, x15, x16, x17, ha, ?_⟩
  obtain ⟨h1, h2, h3, h4, h5, h6, h7, h8, h9, h10, h11, h12, h13, h14, h15, h16, h17, h18, h19, h20, h21, h22, h23, h24, h25⟩ := H
  rw [h 0 (by omega)] at h2
  rw [h 1 (by omega)] at h3
  rw [h 2 (by omega)] at h4
  rw [h 3 (by omega)] at h5
  rw [h 4 (by omega)] at h6
  rw [h 5 (by omega)] at h7
  rw [h 6 (by omega)] at h8
  rw [h 7 (by omega)] at h9
  rw [h 8 (by omega)] at h10
  rw [h 9 (by omega)] at h11 h12 h17 h18 h20
  rw [h 10 (by omega)] at h13 h14 h19 h20
  rw [h 11 (by omega)] at h15 h16 h20
  rw [h 12 (by omega)] at h20 h21 h23
  rw [h 13 (by omega)] at h21 h22 h24
  rw [h 14 (by omega)] at h22 h25
  exact ⟨h1, h2, h3, h4, h5, h6, h7, h8, h9, h10, h11, h12, h13, h14, h15, h16, h17, h18, h19, h20, h21, h22, h23, h24, h25⟩
end Go.Proofs.Ytogikjnfmcfbmaa
