/- maps.Keys at pairs of numbers: the keys come, each once; slices.Collect against them. -/
import Derived.Test.YtgggpaacagbmcaaGreatX10GroupTells
import Derived.Test.YtgggpaacagbmcaaGreatX02GroupTells
import Derived.Shelf.AbstractIn
import Derived.Shelf.SlIterI.Keys
import Derived.Shelf.SlIterI.Collect
import Derived.Shelf.SlIterI.Sorted
set_option linter.unusedVariables false
set_option linter.unusedSimpArgs false
namespace Go.Proofs.YtgggpaacagbmcaaGreat
open Go.RowKit Go.Maps Go.Sort Go.Shelf

theorem keyQ_pair (a b : Int) (ha : (Lit.int .i64 a).wf = true) (hb : (Lit.int .i64 b).wf = true) : ∃ l, keyOf Tryz.prog 131 (.agg #[.int .i64 a, .int .i64 b]) = some l := by
  obtain ⟨m, hm⟩ : ∃ m, Tryz.prog.types.size = m + 1 := ⟨Tryz.prog.types.size - 1, by have : 0 < Tryz.prog.types.size := of_decide_eq_true (by kernel_rfl); omega⟩
  refine ⟨.string (keyBytes [.int .i64 a, .int .i64 b]), ?_⟩
  have hu := Tryz.underlying131
  have hi := Tryz.underlying3
  have hk : Tryz.prog.keyType 131 = true := by kernel_rfl
  have hc : Tryz.prog.cellsOf 131 = 2 := by kernel_rfl
  have hci : Tryz.prog.cellsOf 3 = 1 := by kernel_rfl
  have hr : List.range 2 = [0, 1] := rfl
  simp [keyOf, hu, hk, Value.formed, hc, hm, Program.keyLits, Value.cells, hci, hi, ha, hb, hr]
theorem laidOutQ : laidOutB Tryz.prog = true := by kernel_rfl
theorem law_pairQ : WideMaps.KeyLaw Tryz.prog 131 := deep_law_laid laidOutQ (m := 2) (by omega) (of_decide_eq_true (by kernel_rfl)) (by kernel_rfl) (by kernel_rfl)
def mPair : MK Tryz.prog 131 (Int × Int) where
  K := Keyed.of_law law_pairQ
  ek := fun p => .agg #[.int .i64 p.1, .int .i64 p.2]
  ok := fun p => I64 p.1 ∧ I64 p.2
  key := fun k h => keyQ_pair k.1 k.2 h.1 h.2
  inj := by
    rintro ⟨a, b⟩ ⟨c, d⟩ h
    simp at h
    rw [h.1, h.2]
abbrev GsQ := List ((Int × Int) × Int)

abbrev encQ (p : Int × Int) : Value := .agg #[.int .i64 p.1, .int .i64 p.2]

set_option maxRecDepth 100000 in
set_option maxHeartbeats 2000000 in
theorem keysQ1 (n : Nat) (hn : 1 ≤ n) (l Bm b : Nat) (lst : GsQ) (J : List (Int × Int) → World → Prop)
    (hY : ∀ pre x W, J pre W → pre.length < lst.length → YieldAt Fence.wide (n - 1) Tryz.prog l #[encQ x] W fun e W' => e = .returned (.bool true) ∧ J (pre ++ [x]) W' ∧ KeepsWalks W W')
    (W : World) (hJ : AbidesFrom W.heap.size J) (hm : W.cell? ⟨Bm, 0, none⟩ = some (.map (some b))) (hM : MapIs mPair (Value.int .i64) W b lst) (h0 : J [] W) :
    CallsIn Fence.wide n Tryz.prog 126 #[.func (.yield l) #[] #[], .pointer (some ⟨Bm, 0, none⟩)] W fun e W' => (∃ v, e = .returned v) ∧ ∃ ss : List (Int × Int), ss.Perm (lst.map (·.1)) ∧ J ss W' := by
  refine callsIn_of_wp Tryz.func126 rfl trivial ?_ rfl
  simp only [Tryz.ntmps126, List.size_toArray, List.length_cons, List.length_nil, Nat.reduceAdd, Nat.reduceSub, Array.replicate_succ, Array.replicate_zero, List.push_toArray, List.append_toArray, List.nil_append, List.cons_append]
  gi_wp2_with (first
    | (gi_at_range; refine wpIn_range rfl _ 129 rfl 3 Tryz.underlying129 b lst rfl hM ?_; intro w0 hrg0 hg0 hs0)
    | gi_in)
  go_frame
  gi_loopw [3] (fun _ wr => ∃ (ss : List (Int × Int)), Rng mPair (Value.int .i64) wr b W.heap.size lst ss ∧ J ss wr)
    (fun _ wr => wr.rangeLeft b W.heap.size)
  case atStart =>
    exact ⟨[], hrg0, hJ [] W w0 none h0 hg0 (fun r e => by cases e)⟩
  case round =>
    obtain ⟨ss, hrg, hJs⟩ := hrel
    gi_wp2_with (first
      | (gi_at_next; refine wpIn_next rfl _ rfl b W.heap.size lst ss rfl hrg ?_ ?_)
      | gi_in)
    · intro hp
      gi_wp2
      go_end0
      exact ⟨⟨_, rfl⟩, ss, hp, hJs⟩
    · intro kx ky v w2 hkv hrg2 hlt hg2 hs2 hen
      have hek : mPair.ek (kx, ky) = .agg #[.int .i64 kx, .int .i64 ky] := rfl
      rw [hek] at hen ⊢
      have hlen := hrg2.len
      have hJ2 : J ss w2 := hJ ss wr w2 (some W.heap.size) hJs hg2 (fun r e => by cases e; exact ⟨Nat.le_refl _, hrg.iter_walk⟩)
      have hJ3 : J ss (w2.alloc (.cells #[.int .i64 kx, .int .i64 ky] 131)) := hJ ss w2 _ none hJ2 (World.grownBy_alloc w2 _ none) (fun r e => by cases e)
      obtain ⟨fn, tmps, assign, body, hy, hR⟩ := hY ss (kx, ky) _ hJ3 (by simp at hlen; omega)
      have hrg3 : Rng mPair (Value.int .i64) (w2.alloc (.cells #[.int .i64 kx, .int .i64 ky] 131)) b W.heap.size lst (ss ++ [(kx, ky)]) := hrg2.of_walks (KeepsWalks.alloc _ _)
      clear hs2
      have hc := blk_cells (blk_new w2 (.cells #[.int .i64 kx, .int .i64 ky] 131))
      gi_wp2
      refine hR.mono ?_
      rintro e W3 ⟨rfl, hJ4, hk4⟩
      have hrg4 := hrg3.of_walks hk4
      gi_wp2
      go_roundw
      case rel => exact ⟨ss ++ [(kx, ky)], hrg4, hJ4⟩
      case measure =>
        have e1 := rangeLeft_walks hk4 hrg3
        have e2 := rangeLeft_walks (KeepsWalks.alloc w2 (.cells #[.int .i64 kx, .int .i64 ky] 131)) hrg2
        rw [e1, e2]
        exact hlt
end Go.Proofs.YtgggpaacagbmcaaGreat
