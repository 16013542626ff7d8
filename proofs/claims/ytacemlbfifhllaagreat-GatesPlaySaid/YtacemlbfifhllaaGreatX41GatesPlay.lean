/- The state of the law GatesPlay: gates, the document's gates, the lists that are kept: all of the call's own, apart from each other. -/
import Derived.Test.YtacemlbfifhllaaGreatX39GatesPlay
import Derived.Test.YtacemlbfifhllaaGreatX40GatesPlay
set_option linter.unusedVariables false
set_option linter.unusedSimpArgs false
namespace Go.Proofs.YtacemlbfifhllaaGreat
open Go.RowKit Go.Maps Go.Deep

/-- a block in which no kept list lies -/
def FarK (b : Nat) (s t : Value) (vs us : List Value) (k : Nat) : Prop := k ≠ b ∧ some k ≠ s.ownBlock ∧ some k ≠ t.ownBlock ∧ (∀ v ∈ vs, some k ≠ v.ownBlock) ∧ ∀ u ∈ us, some k ≠ u.ownBlock
theorem KeptT.far_new {w : World} {b base : Nat} {s t : Value} {vs us : List Value} {L : List (List Gt)} (h : KeptT w b base s t vs us L) {k : Nat} (hk : w.heap.size ≤ k) : FarK b s t vs us k := by
  have hbl := blk_lt h.cell
  refine ⟨by omega, fun e => ?_, fun e => ?_, fun v hv e => ?_, fun u hu e => ?_⟩
  · have := (h.os.lt k e.symm).2; omega
  · have := (h.ot.lt k e.symm).2; omega
  · have := (h.lv.lt hv k e.symm).2; omega
  · have := (h.lu.lt hu k e.symm).2; omega
theorem KeptT.but {w w' : World} {b base : Nat} {s t : Value} {vs us : List Value} {L : List (List Gt)} {F : Nat → Prop} (h : KeptT w b base s t vs us L) (hb : But F w w') (hF : ∀ k, F k → FarK b s t vs us k) : KeptT w' b base s t vs us L :=
  ⟨(hb.block b (blk_lt h.cell) (fun hf => (hF b hf).1 rfl)).trans h.cell, h.bb, h.os.but trioV_Free hb (fun k hk hf => (hF k hf).2.1 hk.symm), h.ot.but trioV_Free hb (fun k hk hf => (hF k hf).2.2.1 hk.symm),
    h.lv.but trio_Free hb (fun v hv k hk hf => (hF k hf).2.2.2.1 v hv hk.symm), h.lu.but trio_Free hb (fun v hv k hk hf => (hF k hf).2.2.2.2 v hv hk.symm), h.st, h.sv, h.su, h.tv, h.tu, h.vu⟩
/-- a block that was far stays far as a list is kept: the list's own row is new, and so are the others' new rows -/
theorem FarK.next {w w' : World} {b : Nat} {s t s' t' x x' : Value} {vs us : List Value} {k : Nat} (h : FarK b s t vs us k) (hk : k < w.heap.size) (hf : KFr w w' b s t s' t' x') (hx : some k ≠ x.ownBlock) : FarK b s' t' (vs ++ [x]) (us ++ [x']) k := by
  refine ⟨h.1, fun e => ?_, fun e => ?_, fun v hv e => ?_, fun u hu e => ?_⟩
  · rcases hf.sn with h1 | h1
    · exact h.2.1 (e.trans h1)
    · have := h1 k e.symm; omega
  · rcases hf.tn with h1 | h1
    · exact h.2.2.1 (e.trans h1)
    · have := h1 k e.symm; omega
  · rcases List.mem_append.1 hv with hv | hv
    · exact h.2.2.2.1 v hv e
    · simp at hv; subst hv; exact hx e
  · rcases List.mem_append.1 hu with hu | hu
    · exact h.2.2.2.2 u hu e
    · simp at hu; subst hu; have := hf.xn k e.symm; omega

/-- the state -/
structure PlayS (w0 w : World) (b g : Nat) (r : Option Nat) (l : Gs) (s t : Value) (vs us : List Value) (L : List (List Gt)) (ra : Option Addr) (R : List Gt) : Prop where
  below : Below w0.heap.size w0 w
  base : w0.heap.size ≤ b
  kept : KeptT w b (b + 1) s t vs us L
  gates : GatesAt w g r l
  gge : w0.heap.size ≤ g
  rge : ∀ m, r = some m → w0.heap.size ≤ m
  gfar : FarK b s t vs us g
  rfar : ∀ m, r = some m → FarK b s t vs us m
  ref : Sl tGate w (fun k => FarK b s t vs us k ∧ k ≠ g ∧ some k ≠ r) ra R
section
variable {w0 w : World} {b g : Nat} {r : Option Nat} {l : Gs} {s t : Value} {vs us : List Value} {L : List (List Gt)} {ra : Option Addr} {R : List Gt}
theorem PlayS.gl (h : PlayS w0 w b g r l s t vs us L ra R) : g < w.heap.size ∧ ∀ m, r = some m → m < w.heap.size :=
  ⟨blk_lt h.gates.cell, fun m hm => by
    rcases h.gates.map with ⟨h1, _⟩ | ⟨b, h1, h2⟩
    · rw [h1] at hm; cases hm
    · rw [h1] at hm; injection hm with hm; subst hm; exact h2.lt⟩
theorem PlayS.call {w' : World} (h : PlayS w0 w b g r l s t vs us L ra R) (hb : Below w.heap.size w w') : PlayS w0 w' b g r l s t vs us L ra R :=
  ⟨belows_then h.below h.below.size hb, h.base, h.kept.below hb, h.gates.below hb, h.gge, h.rge, h.gfar, h.rfar, Sl.keep (fun k hk _ => hb.block k hk) h.ref⟩
theorem PlayS.set {w' : World} {r' : Option Nat} {l' : Gs} (h : PlayS w0 w b g r l s t vs us L ra R) (hb : But (gfp g r) w w') (hg : GatesAt w' g r' l') (hr : r' = r ∨ ∃ m, r' = some m ∧ w.heap.size ≤ m) : PlayS w0 w' b g r' l' s t vs us L ra R := by
  have hF : ∀ k, gfp g r k → FarK b s t vs us k := fun k hk => by
    rcases hk with rfl | hk
    · exact h.gfar
    · exact h.rfar k hk
  refine ⟨But.toBelow h.below hb (fun k hk => ?_) h.below.size, h.base, h.kept.but hb hF, hg, h.gge, fun m hm => ?_, h.gfar, fun m hm => ?_, ?_⟩
  · rcases hk with rfl | hk
    · exact h.gge
    · exact h.rge k hk
  · rcases hr with rfl | ⟨m', e, hm'⟩
    · exact h.rge m hm
    · rw [e] at hm; injection hm with hm; subst hm; have := h.below.size; omega
  · rcases hr with rfl | ⟨m', e, hm'⟩
    · exact h.rfar m hm
    · rw [e] at hm; injection hm with hm; subst hm; exact h.kept.far_new hm'
  · have h1 : Sl tGate w (fun k => (FarK b s t vs us k ∧ k ≠ g ∧ some k ≠ r) ∧ k < w.heap.size) ra R := Sl.mono (fun k hk hf => ⟨hf, hk⟩) h.ref
    refine Sl.mono (fun k _ hf => ⟨hf.1.1, hf.1.2.1, fun e => ?_⟩) (Sl.keep (fun k hk hf => hb.block k hk (fun hh => ?_)) h1)
    · rcases hr with rfl | ⟨m', e', hm'⟩
      · exact hf.1.2.2 e
      · rw [e'] at e; injection e with e; have := hf.2; omega
    · rcases hh with hh | hh
      · exact hf.1.2.1 hh
      · exact hf.1.2.2 hh.symm
/-- another gates takes its place -/
theorem PlayS.other {w' : World} {g' : Nat} {r' : Option Nat} {l' : Gs} (h : PlayS w0 w b g r l s t vs us L ra R) (hb : Below w.heap.size w w') (hg : GatesAt w' g' r' l') (hn : w.heap.size ≤ g') (hr : ∀ m, r' = some m → w.heap.size ≤ m) : PlayS w0 w' b g' r' l' s t vs us L ra R := by
  have h0 := h.below.size
  refine ⟨belows_then h.below h.below.size hb, h.base, h.kept.below hb, hg, by omega, fun m hm => by have := hr m hm; omega, h.kept.far_new hn, fun m hm => h.kept.far_new (hr m hm), ?_⟩
  have h1 : Sl tGate w (fun k => (FarK b s t vs us k ∧ k ≠ g ∧ some k ≠ r) ∧ k < w.heap.size) ra R := Sl.mono (fun k hk hf => ⟨hf, hk⟩) h.ref
  refine Sl.mono (fun k _ hf => ⟨hf.1.1, ?_, fun e => ?_⟩) (Sl.keep (fun k hk _ => hb.block k hk) h1)
  · have := hf.2; omega
  · have := hr k e.symm; have := hf.2; omega
/-- the document's gates turn -/
theorem PlayS.refd {w' : World} {ra' : Option Addr} {R' : List Gt} (h : PlayS w0 w b g r l s t vs us L ra R) (hb : Below w.heap.size w w') (hs : Sl tGate w' (fun k => w.heap.size ≤ k) ra' R') : PlayS w0 w' b g r l s t vs us L ra' R' := by
  have h1 := h.call hb
  have h2 := h.gl
  exact ⟨h1.below, h1.base, h1.kept, h1.gates, h1.gge, h1.rge, h1.gfar, h1.rfar, Sl.mono (fun k _ hf => ⟨h.kept.far_new hf, by omega, fun e => by have := h2.2 k e.symm; omega⟩) hs⟩
/-- a list is kept -/
theorem PlayS.keep {w1 w2 : World} {s' t' x x' : Value} {A : List Gt} (h : PlayS w0 w b g r l s t vs us L ra R) (hb : Below w.heap.size w w1) (hx : ∀ k, x.ownBlock = some k → w.heap.size ≤ k) (hbu : But (fun k => b ≤ k) w1 w2)
    (hk : KeptT w2 b (b + 1) s' t' (vs ++ [x]) (us ++ [x']) (L ++ [A])) (hf : KFr w1 w2 b s t s' t' x') : PlayS w0 w2 b g r l s' t' (vs ++ [x]) (us ++ [x']) (L ++ [A]) ra R := by
  have h1 := h.call hb
  have h2 := h.gl
  have hsz := hb.size
  have hnx : ∀ k, k < w.heap.size → some k ≠ x.ownBlock := fun k hk e => by have := hx k e.symm; omega
  have stay : ∀ k, k < w1.heap.size → FarK b s t vs us k → w2.heap[k]? = w1.heap[k]? := fun k hk hfar => hf.keep k hk hfar.1 hfar.2.1 hfar.2.2.1
  refine ⟨But.toBelow h1.below hbu (fun k hk => by have := h.base; omega) h1.below.size, h.base, hk, ?_, h.gge, h.rge, h.gfar.next (by omega) hf (hnx g h2.1), fun m hm => (h.rfar m hm).next (by have := h2.2 m hm; omega) hf (hnx m (h2.2 m hm)), ?_⟩
  · refine ⟨(stay g (by omega) h.gfar).trans h1.gates.cell, h1.gates.map.imp id (fun ⟨m, hm, hM⟩ => ⟨m, hm, hM.keep (stay m (by have := h2.2 m hm; omega) (h.rfar m hm))⟩)⟩
  · have h3 : Sl tGate w (fun k => (FarK b s t vs us k ∧ k ≠ g ∧ some k ≠ r) ∧ k < w.heap.size) ra R := Sl.mono (fun k hk hf => ⟨hf, hk⟩) h.ref
    have h4 := Sl.keep (w' := w2) (fun k hk hf => (stay k (by omega) hf.1.1).trans (hb.block k hk)) h3
    exact Sl.mono (fun k _ hff => ⟨hff.1.1.next (by have := hff.2; omega) hf (hnx k hff.2), hff.1.2⟩) h4
end
theorem GatesAt.but {w w' : World} {g : Nat} {r : Option Nat} {l : Gs} {F : Nat → Prop} (h : GatesAt w g r l) (hb : But F w w') (hg : ¬ F g) (hr : ∀ m, r = some m → ¬ F m) : GatesAt w' g r l :=
  ⟨(hb.block g (blk_lt h.cell) hg).trans h.cell, h.map.imp id (fun ⟨m, e, hM⟩ => ⟨m, e, hM.keep (hb.block m hM.lt (hr m e))⟩)⟩
/-- a copy has taken the place of gates that are still there (g0) -/
structure JunkS (w0 w : World) (b g : Nat) (r : Option Nat) (l : Gs) (s t : Value) (vs us : List Value) (L : List (List Gt)) (ra : Option Addr) (R : List Gt) (g0 : Nat) (r0 : Option Nat) (l0 : Gs) : Prop where
  play : PlayS w0 w b g r l s t vs us L ra R
  old : GatesAt w g0 r0 l0
  oge : w0.heap.size ≤ g0
  ore : ∀ m, r0 = some m → w0.heap.size ≤ m
  ofar : FarK b s t vs us g0
  orfar : ∀ m, r0 = some m → FarK b s t vs us m
  one : g0 ≠ g ∧ some g0 ≠ r
  orne : ∀ m, r0 = some m → m ≠ g ∧ some m ≠ r
  ref : Sl tGate w (fun k => (FarK b s t vs us k ∧ k ≠ g ∧ some k ≠ r) ∧ k ≠ g0 ∧ some k ≠ r0) ra R
section
variable {w0 w : World} {b g : Nat} {r : Option Nat} {l : Gs} {s t : Value} {vs us : List Value} {L : List (List Gt)} {ra : Option Addr} {R : List Gt} {g0 : Nat} {r0 : Option Nat} {l0 : Gs}
theorem JunkS.start {w' : World} {g' : Nat} {r' : Option Nat} (h : PlayS w0 w b g r l s t vs us L ra R) (hb : Below w.heap.size w w') (hg : GatesAt w' g' r' l) (hn : w.heap.size ≤ g') (hr : ∀ m, r' = some m → w.heap.size ≤ m) : JunkS w0 w' b g' r' l s t vs us L ra R g r l := by
  have h2 := h.gl
  refine ⟨h.other hb hg hn hr, h.gates.below hb, h.gge, h.rge, h.gfar, h.rfar, ⟨by omega, fun e => by have := hr g e.symm; omega⟩, fun m hm => ⟨by have := h2.2 m hm; omega, fun e => by have := hr m e.symm; have := h2.2 m hm; omega⟩, ?_⟩
  have h1 : Sl tGate w (fun k => (FarK b s t vs us k ∧ k ≠ g ∧ some k ≠ r) ∧ k < w.heap.size) ra R := Sl.mono (fun k hk hf => ⟨hf, hk⟩) h.ref
  refine Sl.mono (fun k _ hf => ⟨⟨hf.1.1, by have := hf.2; omega, fun e => by have := hr k e.symm; have := hf.2; omega⟩, hf.1.2⟩) (Sl.keep (fun k hk _ => hb.block k hk) h1)
theorem JunkS.set {w' : World} {r1 : Option Nat} {l1 : Gs} (h : JunkS w0 w b g r l s t vs us L ra R g0 r0 l0) (hb : But (gfp g0 r0) w w') (hg : GatesAt w' g0 r1 l1) (hr : r1 = r0 ∨ ∃ m, r1 = some m ∧ w.heap.size ≤ m) : JunkS w0 w' b g r l s t vs us L ra R g0 r1 l1 := by
  have h2 := h.play.gl
  have h0 := h.play.below.size
  have hF : ∀ k, gfp g0 r0 k → FarK b s t vs us k := fun k hk => by
    rcases hk with rfl | hk
    · exact h.ofar
    · exact h.orfar k hk
  have hgn : ¬ gfp g0 r0 g := fun hk => by
    rcases hk with hk | hk
    · exact h.one.1 hk.symm
    · exact (h.orne g hk).1 rfl
  have hrn : ∀ m, r = some m → ¬ gfp g0 r0 m := fun m hm hk => by
    rcases hk with hk | hk
    · exact h.one.2 (by rw [hm, hk])
    · exact (h.orne m hk).2 (by rw [hm])
  have h1 : Sl tGate w (fun k => ((FarK b s t vs us k ∧ k ≠ g ∧ some k ≠ r) ∧ k ≠ g0 ∧ some k ≠ r0) ∧ k < w.heap.size) ra R := Sl.mono (fun k hk hf => ⟨hf, hk⟩) h.ref
  have h3 := Sl.keep (w' := w') (fun k hk hf => hb.block k hk (fun hh => by
    rcases hh with hh | hh
    · exact hf.1.2.1 hh
    · exact hf.1.2.2 hh.symm)) h1
  refine ⟨⟨But.toBelow h.play.below hb (fun k hk => ?_) h.play.below.size, h.play.base, h.play.kept.but hb hF, h.play.gates.but hb hgn hrn, h.play.gge, h.play.rge, h.play.gfar, h.play.rfar, Sl.mono (fun k _ hf => hf.1.1) h3⟩, hg, h.oge, fun m hm => ?_, h.ofar, fun m hm => ?_, h.one, fun m hm => ?_, Sl.mono (fun k _ hf => ⟨hf.1.1, hf.1.2.1, fun e => ?_⟩) h3⟩
  · rcases hk with rfl | hk
    · exact h.oge
    · exact h.ore k hk
  · rcases hr with rfl | ⟨m', e, hm'⟩
    · exact h.ore m hm
    · rw [e] at hm; injection hm with hm; subst hm; omega
  · rcases hr with rfl | ⟨m', e, hm'⟩
    · exact h.orfar m hm
    · rw [e] at hm; injection hm with hm; subst hm; exact h.play.kept.far_new hm'
  · rcases hr with rfl | ⟨m', e, hm'⟩
    · exact h.orne m hm
    · rw [e] at hm; injection hm with hm; subst hm; exact ⟨by omega, fun e => by have := h2.2 _ e.symm; omega⟩
  · rcases hr with rfl | ⟨m', e', hm'⟩
    · exact hf.1.2.2 e
    · rw [e'] at e; injection e with e; have := hf.2; omega
end
/-- the beginning: no gates, no list -/
theorem PlayS.begin (w : World) (w' : World) (hb : Below w.heap.size w w') (hg : w'.heap[w.heap.size]? = some (.cells #[.map none] 27 (0, 0))) (hk : w'.heap[w.heap.size + 1]? = some (.cells (bookT (.slice none 0 0) (.slice none 0 0)) 41 (0, 0))) :
    PlayS w w' (w.heap.size + 1) w.heap.size none [] (.slice none 0 0) (.slice none 0 0) [] [] [] none [] := by
  have hlots : Lots tTrio w' (w.heap.size + 1 + 1) [] [] := ⟨rfl, fun i v l hv _ => by simp at hv, fun i j u v _ hu _ => by simp at hu⟩
  exact ⟨hb, by omega, ⟨hk, Nat.lt_succ_self _, OwnL.nil _ _, OwnL.nil _ _, hlots, hlots, apart_none _, by simp, by simp, by simp, by simp, by simp⟩, ⟨hg, .inl ⟨rfl, rfl⟩⟩, Nat.le_refl _, fun m e => (by cases e), ⟨by omega, by simp [Value.ownBlock], by simp [Value.ownBlock], by simp, by simp⟩, fun m e => (by cases e), fun i x hx => (by simp at hx)⟩
end Go.Proofs.YtacemlbfifhllaaGreat
