/- The law GatesWays, walked: from each state to each one. -/
import Derived.Test.YtacemlbfifhllaaGreatX12GatesPlay
import Derived.Shelf.SlMaps.Clone
set_option linter.unusedVariables false
set_option linter.unusedSimpArgs false
namespace Go.Proofs.YtacemlbfifhllaaGreat
open Go.RowKit Go.Maps

/-- a Gates of the call's own -/
structure Mine (w0 : World) (g : Nat) (l : Gs) (w : World) : Prop where
  below : Below w0.heap.size w0 w
  ge : w0.heap.size ≤ g
  at_ : ∃ r, GatesAt w g r l ∧ ∀ b, r = some b → w0.heap.size ≤ b
theorem Mine.new {w0 w : World} (h : Below w0.heap.size w0 w) : Mine w0 w.heap.size [] (w.alloc (.cells #[.map none] 27)) :=
  ⟨h.alloc h.size _, h.size, none, ⟨blk_new _ _, .inl ⟨rfl, rfl⟩⟩, fun b e => by cases e⟩
theorem Mine.call {w0 w w1 : World} {g : Nat} {l : Gs} (h : Mine w0 g l w) (hb : Below w.heap.size w w1) : Mine w0 g l w1 := by
  obtain ⟨h1, h2, r, h3, h4⟩ := h
  exact ⟨belows_then h1 h1.size hb, h2, r, h3.below hb, h4⟩
theorem mine_set {w0 w : World} {g : Nat} {l : Gs} (h : Mine w0 g l w) (e p s : Int) (he : I64 e) (hp : I64 p) {x : Int} {l' : Gs} (hx : setE l e p s = x) (hl : (if x = 0 then setL l e p s else l) = l') :
    Calls Tryz.prog 6 #[.pointer (some ⟨g, 0, none⟩), .int .i64 e, .int .i64 p, .int .i64 s] w fun en w' => en = .returned (.int .i64 x) ∧ Mine w0 g l' w' := by
  obtain ⟨h1, h2, r, h3, h4⟩ := h
  refine (set_any h3 e p s he hp).mono ?_
  rintro en w' ⟨rfl, hB, r', hG, hr⟩
  rw [hx] at hG ⊢
  rw [hl] at hG
  refine ⟨rfl, ?_, h2, r', hG, ?_⟩
  · exact ⟨hB.os.trans h1.os, hB.tape.trans h1.tape, hB.output.trans h1.output, Nat.le_trans h1.size hB.size, fun k hk => (hB.block k (Nat.lt_of_lt_of_le hk h1.size) (fun hf => by
      rcases hf with hf | hf
      · omega
      · have := h4 k hf; omega)).trans (h1.block k hk)⟩
  · rintro b rfl
    rcases hr with rfl | ⟨b', e, hb'⟩
    · exact h4 b rfl
    · injection e with e
      subst e
      exact Nat.le_trans h1.size hb'
theorem mine_state {w0 w : World} {g : Nat} {l : Gs} (h : Mine w0 g l w) (e p : Int) (he : I64 e) (hp : I64 p) {x : Int} (hx : stateTell l e p = x) :
    Calls Tryz.prog 10 #[.pointer (some ⟨g, 0, none⟩), .int .i64 e, .int .i64 p] w fun en w' => en = .returned (.int .i64 x) ∧ Mine w0 g l w' := by
  obtain ⟨r, h3, h4⟩ := h.at_
  refine (state_any h3 e p he hp).mono ?_
  rintro en w' ⟨rfl, hb⟩
  exact ⟨by rw [hx], h.call hb⟩
theorem mine_may {w0 w : World} {g : Nat} {l : Gs} (h : Mine w0 g l w) (e p : Int) (he : I64 e) (hp : I64 p) {x : Int} (hx : mayTell l e p = x) :
    Calls Tryz.prog 12 #[.pointer (some ⟨g, 0, none⟩), .int .i64 e, .int .i64 p] w fun en w' => en = .returned (.int .i64 x) ∧ Mine w0 g l w' := by
  obtain ⟨r, h3, h4⟩ := h.at_
  refine (gmay_any h3 e p he hp).mono ?_
  rintro en w' ⟨rfl, hb⟩
  exact ⟨by rw [hx], h.call hb⟩
theorem ref_valid_true (m : Int) (w : World) (h : monthOk m = true) : Calls Tryz.prog 20 #[.int .i64 m] w fun e w' => e = .returned (.bool true) ∧ Below w.heap.size w w' := by
  have := ref_valid m w
  rw [h] at this
  exact this

set_option maxHeartbeats 2000000 in
theorem g5alive_any (w : World) : Calls Tryz.prog 4 #[] w fun en w' => en = .returned (.bool true) ∧ Below w.heap.size w w' := by
  go_enter Tryz.func4, Tryz.ntmps4
  go_wp2_with fail
  have hM1 := Mine.new (Below.refl w.heap.size w)
  refine (mine_set hM1 1 5 2 (by decide) (by decide) (x := 11) (l' := []) (by decide) (by decide)).mono ?_
  rintro en w2 ⟨rfl, hM2⟩
  go_wp2_with fail
  refine (mine_set hM2 1 5 1 (by decide) (by decide) (x := 0) (l' := [((1, 5), 1)]) (by decide) (by decide)).mono ?_
  rintro en w3 ⟨rfl, hM3⟩
  go_wp2_with fail
  refine (mine_may hM3 1 5 (by decide) (by decide) (x := 6) (by decide)).mono ?_
  rintro en w4 ⟨rfl, hM4⟩
  go_wp2_with fail
  refine (mine_set hM4 1 5 2 (by decide) (by decide) (x := 0) (l' := [((1, 5), 2)]) (by decide) (by decide)).mono ?_
  rintro en w5 ⟨rfl, hM5⟩
  go_wp2_with fail
  refine (mine_set hM5 1 5 0 (by decide) (by decide) (x := 11) (l' := [((1, 5), 2)]) (by decide) (by decide)).mono ?_
  rintro en w6 ⟨rfl, hM6⟩
  go_wp2_with fail
  refine (mine_may hM6 1 6 (by decide) (by decide) (x := 0) (by decide)).mono ?_
  rintro en w7 ⟨rfl, hM7⟩
  go_wp2_with fail
  go_ret
  exact ⟨rfl, hM7.below⟩

end Go.Proofs.YtacemlbfifhllaaGreat


/- Gates' Copy; the methods of a nil Gates. -/
set_option linter.unusedVariables false
set_option linter.unusedSimpArgs false
namespace Go.Proofs.YtacemlbfifhllaaGreat
open Go.RowKit Go.Maps Go.Shelf Go.Proofs

def layCloneC_ren : Go.Shelf.Ren := ⟨fun | 5 => 15 | 7 => 65 | n => n, fun | 23 => 25 | 25 => 62 | 3 => 3 | 4 => 4 | 20 => 20 | n => n, fun | n => n⟩
theorem layCloneC : Go.Proofs.SlLaysW.n5 Tryz.prog layCloneC_ren := {
  mixed := by kernel_rfl
  f5 := ⟨Tryz.f15.name, by decide, Tryz.func15.trans (congrArg some (by kernel_rfl))⟩
  f7 := Tryz.func65.trans (congrArg some (by kernel_rfl))
  t4 := Tryz.underlying4
  a4 := Tryz.isAgg4
  z4 := Tryz.sizeOf4
  v4 := Tryz.zeroValue4
  t20 := Tryz.underlying20
  a20 := Tryz.isAgg20
  z20 := Tryz.sizeOf20
  v20 := Tryz.zeroValue20
  t23 := Tryz.underlying25
  a23 := Tryz.isAgg25
  z23 := Tryz.sizeOf25
  v23 := Tryz.zeroValue25
}

/-- maps.Clone at places -/
theorem cloneG_any {w : World} {r : Option Nat} {l : Gs} (hm : (r = none ∧ l = []) ∨ ∃ b, r = some b ∧ MapIs mPlace (Value.int .i64) w b l) :
    Calls Tryz.prog 15 #[.map r] w fun e w' => ∃ r', e = .returned (.map r') ∧ ((r' = none ∧ l = []) ∨ ∃ b, r' = some b ∧ MapIs mPlace (Value.int .i64) w' b l) ∧ (∀ b, r' = some b → w.heap.size ≤ b) ∧ Below w.heap.size w w' := by
  rcases hm with ⟨rfl, rfl⟩ | ⟨b, rfl, hM⟩
  · have h := AnyW.maps_Clone_nil layCloneC w
    change Calls Tryz.prog 15 _ _ _ at h
    refine h.mono ?_
    rintro e w' ⟨rfl, rfl⟩
    exact ⟨none, rfl, .inl ⟨rfl, rfl⟩, (fun b e => by cases e), Below.refl _ _⟩
  · obtain ⟨es, clock, hb, h1, h2, h3⟩ := hM.ex
    have h := AnyW.maps_Clone layCloneC b es clock w hb
    change Calls Tryz.prog 15 _ _ _ at h
    refine h.mono ?_
    rintro e w' ⟨rfl, rfl⟩
    exact ⟨some w.heap.size, rfl, .inr ⟨_, rfl, ⟨⟨es, clock, (MapKept.heap_alloc w _).1, h1, h2, h3⟩, hM.oks, hM.once⟩⟩, fun b e => by injection e with e; omega, (Below.refl _ w).alloc (Nat.le_refl _) _⟩

set_option maxHeartbeats 1000000 in
theorem copyG_any {w : World} {g : Nat} {r : Option Nat} {l : Gs} (h : GatesAt w g r l) :
    Calls Tryz.prog 5 #[.pointer (some ⟨g, 0, none⟩)] w fun e w' => ∃ g' r', e = .returned (.pointer (some ⟨g', 0, none⟩)) ∧ GatesAt w' g' r' l ∧ w.heap.size ≤ g' ∧ (∀ b, r' = some b → w.heap.size ≤ b) ∧ Below w.heap.size w w' := by
  have hg := blk_cells h.cell
  have HC := Lib.hid (cloneG_any h.map)
  clear h
  go_enter Tryz.func5, Tryz.ntmps5
  go_wp2_with fail
  refine HC.out.mono ?_
  rintro e w1 ⟨r', rfl, hm, hr, hb⟩
  have HM := Lib.hid hm
  have HR := Lib.hid hr
  have HB := Lib.hid hb
  clear hm hr hb hg HC
  go_wp2_with fail
  go_ret
  exact ⟨_, r', rfl, ⟨blk_new w1 _, HM.out.imp id (fun ⟨b, e, hM⟩ => ⟨b, e, hM.keep (Below.heap_alloc w1 _ b hM.lt)⟩)⟩, HB.out.size, HR.out, HB.out.alloc HB.out.size _⟩

set_option maxHeartbeats 1000000 in
theorem gSet_nil (e p s : Int) (w : World) : Calls Tryz.prog 6 #[.pointer none, .int .i64 e, .int .i64 p, .int .i64 s] w fun en w' => en = .returned (.int .i64 1) ∧ Below w.heap.size w w' := by
  go_enter Tryz.func6, Tryz.ntmps6
  go_wp2_with fail
  go_ret
  exact ⟨rfl, (Below.refl _ w).alloc (Nat.le_refl _) _⟩
set_option maxHeartbeats 1000000 in
theorem gState_nil (e p : Int) (w : World) : Calls Tryz.prog 10 #[.pointer none, .int .i64 e, .int .i64 p] w fun en w' => en = .returned (.int .i64 2) ∧ Below w.heap.size w w' := by
  go_enter Tryz.func10, Tryz.ntmps10
  go_wp2_with fail
  go_ret
  exact ⟨rfl, (Below.refl _ w).alloc (Nat.le_refl _) _⟩
set_option maxHeartbeats 1000000 in
theorem gMay_nil (e p : Int) (w : World) : Calls Tryz.prog 12 #[.pointer none, .int .i64 e, .int .i64 p] w fun en w' => en = .returned (.int .i64 1) ∧ Below w.heap.size w w' := by
  go_enter Tryz.func12, Tryz.ntmps12
  go_wp2_with fail
  go_ret
  exact ⟨rfl, (Below.refl _ w).alloc (Nat.le_refl _) _⟩
theorem gAll_nil (w : World) : Calls Tryz.prog 8 #[.pointer none] w fun en w' => en = .returned (.slice none 0 0) ∧ Below w.heap.size w w' := by
  go_enter Tryz.func8, Tryz.ntmps8
  go_wp2_with fail
  go_ret
  exact ⟨rfl, Below.refl _ w⟩
theorem gCopy_nil (w : World) : Calls Tryz.prog 5 #[.pointer none] w fun en w' => en = .returned (.pointer none) ∧ Below w.heap.size w w' := by
  go_enter Tryz.func5, Tryz.ntmps5
  go_wp2_with fail
  go_ret
  exact ⟨rfl, Below.refl _ w⟩
end Go.Proofs.YtacemlbfifhllaaGreat
