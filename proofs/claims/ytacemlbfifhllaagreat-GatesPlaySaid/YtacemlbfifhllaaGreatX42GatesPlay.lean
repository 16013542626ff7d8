/- maps.Keys at places: the keys come, each once; slices.Collect against them. -/
import Derived.Test.YtacemlbfifhllaaGreatX15GatesPlay
import Derived.Test.YtacemlbfifhllaaGreatX12GatesPlay
import Derived.Shelf.AbstractIn
import Derived.Shelf.SlIterI.Keys
import Derived.Shelf.SlIterI.Collect
import Derived.Shelf.SlIterI.Sorted
set_option linter.unusedVariables false
set_option linter.unusedSimpArgs false
namespace Go.Proofs.YtacemlbfifhllaaGreat
open Go.RowKit Go.Maps Go.Sort Go.Shelf

abbrev encP (p : Int × Int) : Value := .agg #[.int .i64 p.1, .int .i64 p.2]

set_option maxRecDepth 100000 in
set_option maxHeartbeats 2000000 in
theorem keys1 (n : Nat) (hn : 1 ≤ n) (l Bm b : Nat) (lst : Gs) (J : List (Int × Int) → World → Prop)
    (hY : ∀ pre x W, J pre W → pre.length < lst.length → YieldAt Fence.wide (n - 1) Tryz.prog l #[encP x] W fun e W' => e = .returned (.bool true) ∧ J (pre ++ [x]) W' ∧ KeepsWalks W W')
    (W : World) (hJ : AbidesFrom W.heap.size J) (hm : W.cell? ⟨Bm, 0, none⟩ = some (.map (some b))) (hM : MapIs mPlace (Value.int .i64) W b lst) (h0 : J [] W) :
    CallsIn Fence.wide n Tryz.prog 69 #[.func (.yield l) #[] #[], .pointer (some ⟨Bm, 0, none⟩)] W fun e W' => (∃ v, e = .returned v) ∧ ∃ ss : List (Int × Int), ss.Perm (lst.map (·.1)) ∧ J ss W' := by
  refine callsIn_of_wp Tryz.func69 rfl trivial ?_ rfl
  simp only [Tryz.ntmps69, List.size_toArray, List.length_cons, List.length_nil, Nat.reduceAdd, Nat.reduceSub, Array.replicate_succ, Array.replicate_zero, List.push_toArray, List.append_toArray, List.nil_append, List.cons_append]
  gi_wp2_with (first
    | (gi_at_range; refine wpIn_range rfl _ 25 rfl 3 Tryz.underlying25 b lst rfl hM ?_; intro w0 hrg0 hg0 hs0)
    | gi_in)
  go_frame
  gi_loopw [3] (fun _ wr => ∃ (ss : List (Int × Int)), Rng mPlace (Value.int .i64) wr b W.heap.size lst ss ∧ J ss wr)
    (fun _ wr => wr.rangeLeft b W.heap.size)
  case atStart =>
    exact ⟨[], hrg0, hJ [] W w0 none h0 hg0 (fun r e => by cases e)⟩
  case round =>
    obtain ⟨ss, hrg, hJs⟩ := hrel
    gi_wp2_with (first
      | (gi_at_next; refine wpIn_next rfl _ rfl b W.heap.size lst ss rfl hrg ?_ ?_)
      | gi_in)
    · intro hp
      gi_wp2
      go_end0
      exact ⟨⟨_, rfl⟩, ss, hp, hJs⟩
    · intro kx ky v w2 hkv hrg2 hlt hg2 hs2 hen
      have hek : mPlace.ek (kx, ky) = .agg #[.int .i64 kx, .int .i64 ky] := rfl
      rw [hek] at hen ⊢
      have hlen := hrg2.len
      have hJ2 : J ss w2 := hJ ss wr w2 (some W.heap.size) hJs hg2 (fun r e => by cases e; exact ⟨Nat.le_refl _, hrg.iter_walk⟩)
      have hJ3 : J ss (w2.alloc (.cells #[.int .i64 kx, .int .i64 ky] 62)) := hJ ss w2 _ none hJ2 (World.grownBy_alloc w2 _ none) (fun r e => by cases e)
      obtain ⟨fn, tmps, assign, body, hy, hR⟩ := hY ss (kx, ky) _ hJ3 (by simp at hlen; omega)
      have hrg3 : Rng mPlace (Value.int .i64) (w2.alloc (.cells #[.int .i64 kx, .int .i64 ky] 62)) b W.heap.size lst (ss ++ [(kx, ky)]) := hrg2.of_walks (KeepsWalks.alloc _ _)
      clear hs2
      have hc := blk_cells (blk_new w2 (.cells #[.int .i64 kx, .int .i64 ky] 62))
      gi_wp2
      refine hR.mono ?_
      rintro e W3 ⟨rfl, hJ4, hk4⟩
      have hrg4 := hrg3.of_walks hk4
      gi_wp2
      go_roundw
      case rel => exact ⟨ss ++ [(kx, ky)], hrg4, hJ4⟩
      case measure =>
        have e1 := rangeLeft_walks hk4 hrg3
        have e2 := rangeLeft_walks (KeepsWalks.alloc w2 (.cells #[.int .i64 kx, .int .i64 ky] 62)) hrg2
        rw [e1, e2]
        exact hlt
end Go.Proofs.YtacemlbfifhllaaGreat
