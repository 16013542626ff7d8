/- slices.AppendSeq and Collect at pairs of numbers, against whatever iterator value. -/
import Derived.Test.YtgggpaacagbmcaaGreatX12GroupInner
import Derived.Test.YtgggpaacagbmcaaGreatX01GroupInner
import Derived.Test.YtgggpaacagbmcaaGreatX09GroupInner
set_option linter.unusedVariables false
set_option linter.unusedSimpArgs false
namespace Go.Proofs.YtgggpaacagbmcaaGreat
open Go.RowKit Go.Maps Go.Sort Go.Shelf

theorem keysQ_in (mb : Option Nat) (n : Nat) (w : World) :
    CallsIn Fence.wide n Tryz.prog 81 #[.map mb] w fun e w' => e = .returned (.func (.func 126) #[] #[.pointer (some ⟨w.heap.size, 0, none⟩)]) ∧ w' = w.alloc (.cells #[.map mb] 129) := by
  refine callsIn_of_wp Tryz.func81 rfl trivial ?_ rfl
  simp only [Tryz.ntmps81, List.size_toArray, List.length_cons, List.length_nil, Nat.reduceAdd, Nat.reduceSub, Array.replicate_succ, Array.replicate_zero, List.push_toArray, List.append_toArray, List.nil_append, List.cons_append]
  gi_wp2
  go_ret
  exact ⟨rfl, rfl⟩

theorem keysQ_gives (n : Nat) (hn : 1 ≤ n) (Bm b : Nat) (lst : GsQ) (w : World) (hBm : Bm < w.heap.size) (hm : w.cell? ⟨Bm, 0, none⟩ = some (.map (some b))) (hM : MapIs mPair (Value.int .i64) w b lst) :
    SeqGives Fence.wide n Tryz.prog 126 #[.pointer (some ⟨Bm, 0, none⟩)] encQ (fun ss => ss.Perm (lst.map (·.1))) lst.length w := fun l J W hW hJ hY h0 =>
  keysQ1 n hn l Bm b lst J hY W hJ ((hW.cell (p := ⟨Bm, 0, none⟩) hBm).trans hm) (hM.keep (hW.block b hM.lt)) h0

noncomputable def digRQ : Option Code → Code × Code
  | some (.seq _ (.seq (.seq _ (.block _ (.rangeFunc _ _ a b))) _)) => (a, b)
  | _ => (.ret, .ret)
noncomputable def apQA : Code := (digRQ Tryz.f149.body).1
noncomputable def apQB : Code := (digRQ Tryz.f149.body).2

noncomputable def apQRec (fn : FuncId) (sv : Value) (Bs D : Nat) (st : LoopState) (pend : Option Code) : Loop :=
  { state := st, pending := pend, fn, tmps := #[.slice none 0 0, sv, .pointer (some ⟨Bs, 0, none⟩), undef, .slice none 0 0, undef, sv, undef, undef, undef, undef, undef, undef], params := #[7], assign := apQA, body := apQB, defers := D }

abbrev celQ (ss : List (Int × Int)) : List Value := ss.flatMap fun p => [.int .i64 p.1, .int .i64 p.2]

structure ApQAt (w0 : World) (fn : FuncId) (sv : Value) (Bs l D : Nat) (ss : List (Int × Int)) (W : World) : Prop where
  box : ∃ v, W.heap[Bs]? = some (.cells #[v] 132 (0, 0)) ∧ W.ownsRow w0.heap.size 131 2 v ss.length (celQ ss) ∧ (v = .slice none 0 0 ↔ ss = [])
  L : W.heap[l]? = some (.loop (apQRec fn sv Bs D .ready none))
  K : W.heap[D]? = some (.deferred (some []))
  below : Below w0.heap.size w0 W

theorem apQ_abides (w0 : World) (fn : FuncId) (sv : Value) (Bs l D B : Nat) (hB : w0.heap.size ≤ B) : AbidesFrom B (ApQAt w0 fn sv Bs l D) := fun s W W' row h hg hrow => by
  have hrow' : ∀ r, row = some r → ∃ o : Obj, W.heap[r]? = some o ∧ o.isWalk = true := fun r e => (hrow r e).2
  obtain ⟨v, hv, hr, hn⟩ := h.box
  exact ⟨⟨v, (grownBy_keeps hg hrow' hv rfl).trans hv, ownsRow_abides_a hr hg hrow', hn⟩, (grownBy_keeps hg hrow' h.L rfl).trans h.L, (grownBy_keeps hg hrow' h.K rfl).trans h.K,
    h.below.grown hg h.below.size (fun k e => Nat.le_trans hB (hrow k e).1)⟩

theorem infoQ : (Tryz.prog.info? 131).map (fun i => (i.zero, i.size, i.bytes)) = some (some (.agg #[.int .i64 0, .int .i64 0]), 2, 16) := by kernel_rfl

theorem addQ_plain (b i : Nat) : (⟨b, 0, none⟩ : Addr).add i = ⟨b, i, none⟩ := by unfold Addr.add; split <;> simp_all
theorem cellsQ_two (w : World) (b : Nat) (x y : Value) {t : TypeId} {fr : Nat × Nat} (h : w.heap[b]? = some (.cells #[x, y] t fr)) : ∀ (j : Nat) (u : Value), [x, y][j]? = some u → w.cell? ((⟨b, 0, none⟩ : Addr).add j) = some u := by
  intro j u hj
  rw [addQ_plain, cell_of_row w b j #[x, y] t fr h]
  simpa using hj
theorem celQ_snoc (ss : List (Int × Int)) (x : Int × Int) : celQ ss ++ [.int .i64 x.1, .int .i64 x.2] = celQ (ss ++ [x]) := by simp [celQ]

set_option maxRecDepth 100000 in
set_option maxHeartbeats 4000000 in
theorem apQYield (m : Nat) (w0 : World) (fn : FuncId) (sv : Value) (Bs l D : Nat) (hBl : Bs ≠ l) (hDl : D ≠ l) (hDB : D ≠ Bs) (h0B : w0.heap.size ≤ Bs) (h0l : w0.heap.size ≤ l)
    (N : Nat) (hN : N ≤ maxLen) (hNb : N * 16 ≤ 140737488355328) (ss : List (Int × Int)) (x : Int × Int) (W : World) (h : ApQAt w0 fn sv Bs l D ss W) (hlen : ss.length < N) :
    YieldAt Fence.wide m Tryz.prog l #[encQ x] W fun e W' => e = .returned (.bool true) ∧ ApQAt w0 fn sv Bs l D (ss ++ [x]) W' ∧ KeepsWalks W W' := by
  have hne : (132 : TypeId) ≠ 131 := by decide
  obtain ⟨i0, hi, hz0, hz1, hz2⟩ := info_parts infoQ
  obtain ⟨v, hv, hrow, _⟩ := h.box
  refine ⟨fn, #[.slice none 0 0, sv, .pointer (some ⟨Bs, 0, none⟩), undef, .slice none 0 0, undef, sv, encQ x, undef, undef, undef, undef, undef], apQA, apQB, by simpa [apQRec] using run_yield (P := Tryz.prog) (args := #[encQ x]) h.L rfl, roundIn_of_wpIn trivial ?_⟩
  obtain ⟨x1, x2⟩ := x
  obtain ⟨W1, hW1⟩ : ∃ W1, W.alloc (.cells #[.int .i64 x1, .int .i64 x2] 131) = W1 := ⟨_, rfl⟩
  have hn1 : W1.heap[W.heap.size]? = some (.cells #[.int .i64 x1, .int .i64 x2] 131 (0, 0)) := by rw [← hW1]; exact blk_new _ _
  have hL1 : W1.heap[l]? = some (.loop (apQRec fn sv Bs D .ready none)) := by rw [← hW1]; exact blk_alloc h.L _
  have hv1 : W1.heap[Bs]? = some (.cells #[v] 132 (0, 0)) := by rw [← hW1]; exact blk_alloc hv _
  have hK1 : W1.heap[D]? = some (.deferred (some [])) := by rw [← hW1]; exact blk_alloc h.K _
  have hrow1 : W1.ownsRow w0.heap.size 131 2 v ss.length (celQ ss) := by rw [← hW1]; exact hrow.alloc _
  have hb1 : Below w0.heap.size w0 W1 := by rw [← hW1]; exact h.below.alloc h.below.size _
  have hk1 : KeepsWalks W W1 := by rw [← hW1]; exact KeepsWalks.alloc _ _
  have hl0 : l < W.heap.size := blk_lt h.L
  have hbr := run_beginRound (P := Tryz.prog) hL1 rfl
  obtain ⟨W2a, hW2⟩ : ∃ W2, W1.putObj l (.loop { apQRec fn sv Bs D .ready none with state := .busy }) = W2 := ⟨_, rfl⟩
  rw [hW2] at hbr
  have hg2 : W1.grownBy W2a (some l) := by rw [← hW2]; exact grownBy_putObj_a _ _ _
  have hk2a : KeepsWalks W W2a := hk1.trans (by rw [← hW2]; exact KeepsWalks.putObj _ hL1 rfl)
  have hv2a : W2a.heap[Bs]? = some (.cells #[v] 132 (0, 0)) := by rw [← hW2]; exact (World.putObj_heap_other hBl).trans hv1
  have hK2a : W2a.heap[D]? = some (.deferred (some [])) := by rw [← hW2]; exact (World.putObj_heap_other hDl).trans hK1
  have hL2a : W2a.heap[l]? = some (.loop { apQRec fn sv Bs D .ready none with state := .busy }) := by rw [← hW2]; exact World.putObj_heap_same (blk_lt hL1)
  have hnew : W2a.heap[W.heap.size]? = some (.cells #[.int .i64 x1, .int .i64 x2] 131 (0, 0)) := by rw [← hW2]; exact (World.putObj_heap_other (by omega)).trans hn1
  have hrow2a : W2a.ownsRow w0.heap.size 131 2 v ss.length (celQ ss) := hrow1.kept hg2 (ownsRow_ne_a hrow1 hL1 (fun cur e => by first | cases e | exact hne (Obj.cells.inj e).2.1))
  have hb2a : Below w0.heap.size w0 W2a := hb1.grown hg2 hb1.size (fun k e => by cases e; exact h0l)
  clear hW2

  simp only [encQ, apQA, apQB, digRQ, Tryz.f149]
  have hBlt := blk_lt hv2a
  have hl2 := blk_lt hL2a
  have hDlt := blk_lt hK2a
  have hcn := blk_cells hnew
  obtain ⟨hc2, hf2⟩ := cell_of_box_a hv2a
  have ne_of : ∀ {j : Nat} {o : Obj}, W2a.heap[j]? = some o → (∀ cur, o ≠ .cells cur 131 (0, 0)) → some j ≠ v.ownBlock := fun hj hno => by
    rcases ownsRow_ne_a hrow2a hj hno with e | e
    · rw [e]; simp
    · exact fun e' => e e'.symm
  gi_wp2_with (first
    | (gi_at_builtin; refine wpListIn_append_own _ rfl _ _ 132 rfl w0.heap.size 131 i0 (.agg #[.int .i64 0, .int .i64 0]) 2 16 Tryz.underlying132 hi hz0 hz1 hz2 rfl (by decide) _ _ _ rfl (hrow2a.alloc _) ⟨W2a.heap.size, 0, none⟩ 1 1 [.int .i64 x1, .int .i64 x2] rfl rfl (cellsQ_two _ _ _ _ (blk_new W2a _)) (by simp [Value.oneCell']) (by omega) (by omega) (by have := hb2a.size; simp; omega) ?_; intro v' w3 hown' hg3 hnil3
       have hv3 : w3.heap[Bs]? = some (.cells #[v] 132 (0, 0)) := (hg3.block Bs (by simp; omega) (ne_of hv2a (fun cur e => by first | cases e | exact hne (Obj.cells.inj e).2.1))).trans ((Below.heap_alloc _ _ Bs (blk_lt hv2a)).trans hv2a)
       obtain ⟨hc3, hf3⟩ := cell_of_box_a hv3
       obtain ⟨g', cap', cur', rfl, hbase', hgb', hr1, hr2, hr3, hr4⟩ : ∃ g' cap' cur', v' = .slice (some ⟨g', 0, none⟩) (ss.length + 1) cap' ∧ w0.heap.size ≤ g' ∧ w3.heap[g']? = some (.cells cur' 131 (0, 0)) ∧ ss.length + 1 ≤ cap' ∧ cap' ≤ maxLen ∧ cur'.size = cap' * 2 ∧ cur'.toList.take ((ss.length + 1) * 2) = celQ ss ++ [.int .i64 x1, .int .i64 x2] := by
         rcases hown'.2 with ⟨_, h0⟩ | h'
         · exact absurd h0 (by omega)
         · exact h'
       go_frame)
    | gi_round_op_a)
  have hg3' : (W2a.alloc (.cells #[.int .i64 x1, .int .i64 x2] 131)).grownBy w3 v.ownBlock := hg3
  have hL3 : w3.heap[l]? = some (.loop { apQRec fn sv Bs D .ready none with state := .busy }) := (hg3'.block l (by simp; omega) (ne_of hL2a (fun cur e => by first | cases e | exact hne (Obj.cells.inj e).2.1))).trans ((Below.heap_alloc _ _ l (blk_lt hL2a)).trans hL2a)
  have hK3 : w3.heap[D]? = some (.deferred (some [])) := (hg3'.block D (by simp; omega) (ne_of hK2a (fun cur e => by first | cases e | exact hne (Obj.cells.inj e).2.1))).trans ((Below.heap_alloc _ _ D (blk_lt hK2a)).trans hK2a)
  obtain ⟨w4, hw4⟩ : ∃ w4, w3.setCell ⟨Bs, 0, none⟩ (.slice (some ⟨g', 0, none⟩) (ss.length + 1) cap') = w4 := ⟨_, rfl⟩
  rw [hw4]
  have hg4 : w3.grownBy w4 (some Bs) := by rw [← hw4]; exact grownBy_setCell0_a _ _ _
  have hv4 : w4.heap[Bs]? = some (.cells #[.slice (some ⟨g', 0, none⟩) (ss.length + 1) cap'] 132 (0, 0)) := by rw [← hw4]; exact heap_setCell_box_a _ hv3
  have hL4 : w4.heap[l]? = some (.loop { apQRec fn sv Bs D .ready none with state := .busy }) := (hg4.block l (blk_lt hL3) (fun e => hBl (by cases e; rfl))).trans hL3
  have hK4 : w4.heap[D]? = some (.deferred (some [])) := (hg4.block D (blk_lt hK3) (fun e => hDB (by cases e; rfl))).trans hK3
  have hrow4 := hown'.kept hg4 (ownsRow_ne_a hown' hv3 (fun cur e => by first | cases e | exact hne (Obj.cells.inj e).2.1))
  have hb3 : Below w0.heap.size w0 w3 := (hb2a.alloc hb2a.size _).grown hg3' (by have := hb2a.size; simp; omega) (fun k e => (hrow2a.lt k e).1)
  have hb4 : Below w0.heap.size w0 w4 := hb3.grown hg4 hb3.size (fun k e => by cases e; exact h0B)
  have hk4 : KeepsWalks W w4 := ((hk2a.trans (KeepsWalks.alloc _ _)).trans (KeepsWalks.of_grownBy hg3' (ownsRow_not_walk_a (hrow2a.alloc _)))).trans (by rw [← hw4]; exact KeepsWalks.setCell _ _ _)
  clear hw4
  refine ⟨_, _, run_endRound none hL4, rfl, ⟨⟨_, (World.putObj_heap_other hBl).trans hv4, ?_, by simp⟩, World.putObj_heap_same (blk_lt hL4), (World.putObj_heap_other hDl).trans hK4, hb4.grown (grownBy_putObj_a _ _ _) hb4.size (fun k e => by cases e; exact h0l)⟩, hk4.trans (KeepsWalks.putObj _ hL4 rfl)⟩
  have := hrow4.kept (grownBy_putObj_a w4 l (.loop { { apQRec fn sv Bs D .ready none with state := .busy } with state := if (none : Option Code).isNone then .ready else .done, pending := none })) (ownsRow_ne_a hrow4 hL4 (fun cur e => by first | cases e | exact hne (Obj.cells.inj e).2.1))
  rw [← celQ_snoc]
  simpa using this
end Go.Proofs.YtgggpaacagbmcaaGreat


/- slices.AppendSeq, Collect, SortedFunc at pairs of numbers; Gates' All. -/
set_option linter.unusedVariables false
set_option linter.unusedSimpArgs false
namespace Go.Proofs.YtgggpaacagbmcaaGreat
open Go.RowKit Go.Maps Go.Sort Go.Shelf

set_option maxRecDepth 100000 in
set_option maxHeartbeats 4000000 in
theorem appendSeqQ_in (n : Nat) (hn : 2 ≤ n) (g : Nat) (lb : Array Value) (eg : ∀ args w, (callFunc g args).run Tryz.prog w = .ok (.enter g args) w)
    (S : List (Int × Int) → Prop) (N : Nat) (hN : N ≤ maxLen) (hNb : N * 16 ≤ 140737488355328) (w : World) (hseq : SeqGives Fence.wide (n - 1) Tryz.prog g lb encQ S N w) :
    CallsIn Fence.wide n Tryz.prog 149 #[.slice none 0 0, .func (.func g) #[] lb] w fun e w' => ∃ (v : Value) (ss : List (Int × Int)), e = .returned v ∧ S ss ∧ w'.ownsRow w.heap.size 131 2 v ss.length (celQ ss) ∧ (v = .slice none 0 0 ↔ ss = []) ∧ Below w.heap.size w w' := by
  have h1 : 1 ≤ n := by omega
  have hne : (132 : TypeId) ≠ 131 := by decide
  refine callsIn_of_wp_marks Tryz.func149 rfl trivial ?_ rfl
  simp only [Tryz.ntmps149, List.size_toArray, List.length_cons, List.length_nil, Nat.reduceAdd, Nat.reduceSub, Array.replicate_succ, Array.replicate_zero, List.push_toArray, List.append_toArray, List.nil_append, List.cons_append]
  gi_wp2
  refine wpIn_rangeFunc ?_
  intro fn hfn
  rw [show Fence.wide.round = none from rfl]
  obtain ⟨W0, hW0⟩ : ∃ W0, w.alloc (.cells #[.slice none 0 0] 132) = W0 := ⟨_, rfl⟩
  have hs0 : W0.heap.size = w.heap.size + 1 := by rw [← hW0]; simp
  have hv0 : W0.heap[w.heap.size]? = some (.cells #[.slice none 0 0] 132 (0, 0)) := by rw [← hW0]; exact World.alloc_heap_new w _
  have hb0 : Below w.heap.size w W0 := by rw [← hW0]; exact (Below.refl _ w).alloc (Nat.le_refl _) _
  rw [hW0]
  obtain ⟨W1, hW1⟩ : ∃ W1, (W0.alloc (.deferred (some []))).alloc (.loop (apQRec fn (.func (.func g) #[] lb) w.heap.size W0.heap.size .ready none)) = W1 := ⟨_, rfl⟩
  have hold : ∀ k, k < W0.heap.size → W1.heap[k]? = W0.heap[k]? := fun k hk => by
    rw [← hW1]; exact (Below.heap_alloc _ _ k (by simp; omega)).trans (Below.heap_alloc _ _ k hk)
  have hb1 : Below w.heap.size w W1 := by rw [← hW1]; exact (hb0.alloc hb0.size _).alloc (by have := hb0.size; simp; omega) _
  have hs1 : W1.heap.size = W0.heap.size + 2 := by rw [← hW1]; simp
  have hM : ApQAt w fn (.func (.func g) #[] lb) w.heap.size (W0.heap.size + 1) W0.heap.size [] W1 :=
    ⟨⟨_, (hold w.heap.size (by omega)).trans hv0, ⟨rfl, .inl ⟨rfl, rfl⟩⟩, by simp⟩,
     by rw [← hW1]; have := World.alloc_heap_new (W0.alloc (.deferred (some []))) (.loop (apQRec fn (.func (.func g) #[] lb) w.heap.size W0.heap.size .ready none)); rwa [World.size_alloc] at this,
     by rw [← hW1]; exact (Below.heap_alloc _ _ _ (by simp)).trans (World.alloc_heap_new W0 _), hb1⟩
  refine ⟨W0.heap.size + 1, [{ target := .collected W0.heap.size, args := #[] }], W1, { target := .fn (.func g) lb, args := #[.func (.yield (W0.heap.size + 1)) #[] #[]] }, W1, g,
    #[.func (.yield (W0.heap.size + 1)) #[] #[]] ++ lb, W1, ?_, ?_, ?_, ?_, fun _ => h1, ?_⟩
  · rw [← hW1]; exact run_enterLoop_outer _ _ _ _ _
  · simp [resolve, go_sem]
  · intro f' hf'; simp [Target.leads] at hf'; subst hf'; trivial
  · simp [invoke, go_sem, eg]
  · refine (hseq (W0.heap.size + 1) (ApQAt w fn (.func (.func g) #[] lb) w.heap.size (W0.heap.size + 1) W0.heap.size) W1 hb1 (apQ_abides _ _ _ _ _ _ _ hb1.size)
      (fun pre x W hJ hl => apQYield (n - 1 - 1) w fn _ w.heap.size (W0.heap.size + 1) W0.heap.size (by omega) (by omega) (by omega) (Nat.le_refl _) (by omega) N hN hNb pre x W hJ hl) hM).mono ?_
    rintro e W2 ⟨⟨v0, rfl⟩, ss, hS, h2⟩
    obtain ⟨v, hv, hrow, hnil⟩ := h2.box
    have hend := run_endLoop (P := Tryz.prog) h2.L (by simp [apQRec])
    obtain ⟨W3, hW3⟩ : ∃ W3, W2.putObj (W0.heap.size + 1) (.loop { apQRec fn (.func (.func g) #[] lb) w.heap.size W0.heap.size .ready none with state := .exhausted }) = W3 := ⟨_, rfl⟩
    rw [hW3] at hend
    have hg3 : W2.grownBy W3 (some (W0.heap.size + 1)) := by rw [← hW3]; exact grownBy_putObj_a _ _ _
    have hv3 : W3.heap[w.heap.size]? = some (.cells #[v] 132 (0, 0)) := by rw [← hW3]; exact (World.putObj_heap_other (by omega)).trans hv
    have hK3 : W3.heap[W0.heap.size]? = some (.deferred (some [])) := by rw [← hW3]; exact (World.putObj_heap_other (by omega)).trans h2.K
    have hrow3 := hrow.kept hg3 (ownsRow_ne_a hrow h2.L (fun cur e => by first | cases e | exact hne (Obj.cells.inj e).2.1))
    have hb3 : Below w.heap.size w W3 := h2.below.grown hg3 h2.below.size (fun k e => by cases e; omega)
    obtain ⟨hc3, hf3⟩ := cell_of_box_a hv3
    clear hW3
    refine ⟨none, W3, hend, ?_⟩
    gi_wp2
    rw [← hs0]
    refine ⟨by simp, .inl ⟨_, _, rfl, run_takeDeferred hK3, ?_⟩⟩
    exact ⟨_, results_tmp rfl _ _ _, v, ss, rfl, hS, hrow3.kept (grownBy_putObj_a _ _ _) (ownsRow_ne_a hrow3 hK3 (fun cur e => by first | cases e | exact hne (Obj.cells.inj e).2.1)), hnil, hb3.grown (grownBy_putObj_a _ _ _) hb3.size (fun k e => by cases e; omega)⟩

set_option maxHeartbeats 2000000 in
theorem collectQ_in (n : Nat) (hn : 3 ≤ n) (g : Nat) (lb : Array Value) (eg : ∀ args w, (callFunc g args).run Tryz.prog w = .ok (.enter g args) w)
    (S : List (Int × Int) → Prop) (N : Nat) (hN : N ≤ maxLen) (hNb : N * 16 ≤ 140737488355328) (w : World) (hseq : SeqGives Fence.wide (n - 1 - 1) Tryz.prog g lb encQ S N w) :
    CallsIn Fence.wide n Tryz.prog 124 #[.func (.func g) #[] lb] w fun e w' => ∃ (v : Value) (ss : List (Int × Int)), e = .returned v ∧ S ss ∧ w'.ownsRow w.heap.size 131 2 v ss.length (celQ ss) ∧ (v = .slice none 0 0 ↔ ss = []) ∧ Below w.heap.size w w' := by
  have h1 : 1 ≤ n := by omega
  refine callsIn_of_wp Tryz.func124 rfl trivial ?_ rfl
  simp only [Tryz.ntmps124, List.size_toArray, List.length_cons, List.length_nil, Nat.reduceAdd, Nat.reduceSub, Array.replicate_succ, Array.replicate_zero, List.push_toArray, List.append_toArray, List.nil_append, List.cons_append]
  have hf : Fence.wide.fn 149 := trivial
  gi_wp2_with (gi_at_call 149; refine (appendSeqQ_in (n - 1) (by omega) g lb eg S N hN hNb _ hseq).mono ?_; rintro e w' ⟨v, ss, rfl, hS, hrow, hnil, hb⟩)
  go_ret
  exact ⟨v, ss, rfl, hS, hrow, hnil, hb⟩

end Go.Proofs.YtgggpaacagbmcaaGreat


/- Maps with whole numbers as keys. -/
set_option linter.unusedVariables false
set_option linter.unusedSimpArgs false
namespace Go.Proofs.YtgggpaacagbmcaaGreat
open Go.RowKit Go.Maps

def mInt : MK Tryz.prog 3 Int where
  K := int_keyed Tryz.underlying3
  ek := fun k => .int .i64 k
  ok := fun k => I64 k
  key := fun k h => ⟨_, keyOf_int_mk Tryz.underlying3 h⟩
  inj := by
    intro a b h
    simpa using h
theorem zeroI (w : World) : (zeroValue 3).run Tryz.prog w = .ok (.int .i64 0) w := by kernel_rfl
/-- what stands under a key: 0, if nothing -/
def at0 (s : List (Int × Int)) (k : Int) : Int := (look s k).getD 0
theorem lookI {T : TypeId} {w : World} {b : Nat} {s : List (Int × Int)} (h : MapIs mInt (Value.int .i64) w b s) (ht : Tryz.prog.underlying T = some (.map 3 3)) {k : Int} (hk : I64 k) (W : World) (hW : W.heap[b]? = w.heap[b]?) :
    (Instr.lookup T (.map (some b)) (.int .i64 k) false).run Tryz.prog W = .ok (.int .i64 (at0 s k)) W := by
  have := (h.keep (w' := W) hW).lookup ht (k := k) hk (zeroI W)
  rw [show mInt.ek k = .int .i64 k from rfl] at this
  rw [this]
  unfold at0
  cases look s k <;> rfl
theorem wrap64_wf (n : Int) : I64 (wrap64 n) := by
  unfold I64 Lit.wf wrap64
  simp [IntKind.min, IntKind.max, IntKind.bits, IntKind.signed]
  omega
/-- an amount added under a key -/
def sAdd (s : List (Int × Int)) (k v : Int) : List (Int × Int) := ins s k (wrap64 (at0 s k + v))
theorem sAdd_vals {s : List (Int × Int)} (h : ∀ x ∈ s, I64 x.2) (k v : Int) : ∀ x ∈ sAdd s k v, I64 x.2 := by
  intro x hx
  rcases mem_ins hx with rfl | hx
  · exact wrap64_wf _
  · exact h x hx
end Go.Proofs.YtgggpaacagbmcaaGreat


/- trial: right, counts, account, partner. -/
set_option linter.unusedVariables false
set_option linter.unusedSimpArgs false
namespace Go.Proofs.YtgggpaacagbmcaaGreat
open Go.RowKit Go.Maps

theorem sl_two (x y : Int) (b : Nat) (W : World) (hb : W.heap[b]? = some (.cells #[.int .i64 x, .int .i64 y] 3 (0, 0))) (wx : I64 x) (wy : I64 y) : Sl tInt W (fun _ => True) (some ⟨b, 0, none⟩) [x, y] := by
  intro i u hi
  have hlt : b < W.heap.size := (Array.getElem?_eq_some_iff.1 hb).1
  have hcell := fun o => cell_of_row W b o #[.int .i64 x, .int .i64 y] 3 (0, 0) hb
  match i, hi with
  | 0, hi =>
    simp at hi; subst hi
    refine ⟨_, [.int .i64 x], rfl, trivial, hlt, fun j v hv => ?_, rfl, wx⟩
    cases j with
    | zero => simp at hv; subst hv; exact hcell 0
    | succ j => simp at hv
  | 1, hi =>
    simp at hi; subst hi
    refine ⟨_, [.int .i64 y], rfl, trivial, hlt, fun j v hv => ?_, rfl, wy⟩
    cases j with
    | zero => simp at hv; subst hv; exact hcell 1
    | succ j => simp at hv
theorem valid2 (x y : Int) (b : Nat) (W : World) (hb : W.heap[b]? = some (.cells #[.int .i64 x, .int .i64 y] 3 (0, 0))) (wx : I64 x) (wy : I64 y) {r : Bool} (hr : (monthOk x && monthOk y) = r) :
    Calls Tryz.prog 28 #[.slice (some ⟨b, 0, none⟩) 2 2] W fun e w' => e = .returned (.bool r) ∧ Below W.heap.size W w' := by
  have := term_valid (some ⟨b, 0, none⟩) 2 [x, y] W (by simp only [List.length_cons, List.length_nil]; omega) (sl_two x y b W hb wx wy)
  simp only [List.all_cons, List.all_nil, Bool.and_true] at this
  rwa [hr] at this

def rightB (e f t : Int) : Bool := entB e && ((monthOk f && monthOk t) && decide (f ≤ t))
theorem right_cases {e f t : Int} {b : Bool} (h : rightB e f t = b) : (b = false ∧ (e < 1 ∨ 1 ≤ e ∧ (9 < e ∨ e ≤ 9 ∧ ((monthOk f && monthOk t) = false ∨ (monthOk f && monthOk t) = true ∧ decide (f ≤ t) = false)))) ∨
    (b = true ∧ 1 ≤ e ∧ e ≤ 9 ∧ (monthOk f && monthOk t) = true ∧ f ≤ t) := by
  subst h
  unfold rightB entB
  cases (monthOk f && monthOk t) with
  | false => simp only [Bool.false_and, Bool.and_false, true_and, Bool.false_eq_true, false_and, true_or, and_true, or_false]; omega
  | true =>
    by_cases h1 : 1 ≤ e <;> by_cases h2 : e ≤ 9 <;> by_cases h3 : f ≤ t <;> simp [h1, h2, h3] <;> omega

abbrev tofv (e f t : Int) : Value := .agg #[.int .i64 e, .int .i64 f, .int .i64 t]
/-- does a journal count? -/
def cnt (e f t : Int) (j : Jn) : Bool := !j.void && (j.en == e && (decide (f ≤ j.pe) && decide (j.pe ≤ t)))
theorem cnt_cases {e f t : Int} {j : Jn} {b : Bool} (h : cnt e f t j = b) : (b = false ∧ (j.void = true ∨ j.void = false ∧ ((j.en == e) = false ∨ (j.en == e) = true ∧ (decide (f ≤ j.pe) = false ∨ decide (f ≤ j.pe) = true ∧ decide (j.pe ≤ t) = false)))) ∨
    (b = true ∧ j.void = false ∧ (j.en == e) = true ∧ f ≤ j.pe ∧ j.pe ≤ t) := by
  subst h
  unfold cnt
  cases j.void <;> cases j.en == e <;> by_cases h3 : f ≤ j.pe <;> by_cases h4 : j.pe ≤ t <;> simp [h3, h4] <;> omega
def AddPost (w : World) (b : Nat) (s' : List (Int × Int)) (e : Ending) (w' : World) : Prop :=
  e = .returned (.tuple #[]) ∧ MapIs mInt (Value.int .i64) w' b s' ∧ But (· = b) w w'

def sPar (s : List (Int × Int)) (l : Ln) : List (Int × Int) := if l.par == 0 then s else sAdd s l.par l.amt
end Go.Proofs.YtgggpaacagbmcaaGreat


/- trial: each, of. -/
set_option linter.unusedVariables false
set_option linter.unusedSimpArgs false
namespace Go.Proofs.YtgggpaacagbmcaaGreat
open Go.RowKit Go.Maps

def linesOf (l : List Jn) (e f t : Int) : List Ln := (l.filter (cnt e f t)).flatMap (·.lines)
theorem linesOf_succ (e f t : Int) (l : List Jn) (n : Nat) (hn : n < l.length) : linesOf (l.take (n + 1)) e f t = linesOf (l.take n) e f t ++ (if cnt e f t l[n] then l[n].lines else []) := by
  unfold linesOf
  rw [List.take_succ_eq_append_getElem hn, List.filter_append, List.flatMap_append]
  cases h : cnt e f t l[n] <;> simp [h]
def accS (s : List (Int × Int)) (ls : List Ln) : List (Int × Int) := ls.foldl (fun s x => sAdd s x.acc x.amt) s
def parS (s : List (Int × Int)) (ls : List Ln) : List (Int × Int) := ls.foldl sPar s
theorem BookAt.same {w w' : World} {b : Nat} {a : Option Addr} {cap : Nat} {l : List Jn} {F : Nat → Prop} (h : BookAt w b a cap l F) (hw : w'.heap = w.heap) : BookAt w' b a cap l F :=
  ⟨by rw [hw]; exact h.cell, Sl.keep (fun k hk _ => by rw [hw]) h.sl, h.len, h.cap⟩
theorem But.toBelow {F : Nat → Prop} {B : Nat} {w w1 w2 : World} (hb : Below B w w1) (h : But F w1 w2) (hF : ∀ k, F k → B ≤ k) (hB : B ≤ w1.heap.size) : Below B w w2 :=
  ⟨h.os.trans hb.os, h.tape.trans hb.tape, h.output.trans hb.output, Nat.le_trans hb.size h.size, fun k hk => (h.block k (Nat.lt_of_lt_of_le hk hB) (fun hf => by have := hF k hf; omega)).trans (hb.block k hk)⟩

def SumPost (w : World) (s : List (Int × Int)) (e : Ending) (w' : World) : Prop := ∃ bm, e = .returned (.map (some bm)) ∧ MapIs mInt (Value.int .i64) w' bm s ∧ Below w.heap.size w w'
end Go.Proofs.YtgggpaacagbmcaaGreat
