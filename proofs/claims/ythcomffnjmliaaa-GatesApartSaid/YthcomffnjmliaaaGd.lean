/- The law GatesWays, walked: from each state to each one. -/
import Derived.Test.YthcomffnjmliaaaGc
set_option linter.unusedVariables false
set_option linter.unusedSimpArgs false
namespace Go.Proofs.Ythcomffnjmliaaa
open Go.RowKit Go.Maps

/-- a Gates of the call's own -/
structure Mine (w0 : World) (g : Nat) (l : Gs) (w : World) : Prop where
  below : Below w0.heap.size w0 w
  ge : w0.heap.size ≤ g
  at_ : ∃ r, GatesAt w g r l ∧ ∀ b, r = some b → w0.heap.size ≤ b
theorem Mine.new {w0 w : World} (h : Below w0.heap.size w0 w) : Mine w0 w.heap.size [] (w.alloc (.cells #[.map none] 27)) :=
  ⟨h.alloc h.size _, h.size, none, ⟨blk_new _ _, .inl ⟨rfl, rfl⟩⟩, fun b e => by cases e⟩
theorem Mine.call {w0 w w1 : World} {g : Nat} {l : Gs} (h : Mine w0 g l w) (hb : Below w.heap.size w w1) : Mine w0 g l w1 := by
  obtain ⟨h1, h2, r, h3, h4⟩ := h
  exact ⟨belows_then h1 h1.size hb, h2, r, h3.below hb, h4⟩
theorem mine_set {w0 w : World} {g : Nat} {l : Gs} (h : Mine w0 g l w) (e p s : Int) (he : I64 e) (hp : I64 p) {x : Int} {l' : Gs} (hx : setE l e p s = x) (hl : (if x = 0 then setL l e p s else l) = l') :
    Calls Try.prog 19 #[.pointer (some ⟨g, 0, none⟩), .int .i64 e, .int .i64 p, .int .i64 s] w fun en w' => en = .returned (.int .i64 x) ∧ Mine w0 g l' w' := by
  obtain ⟨h1, h2, r, h3, h4⟩ := h
  refine (set_any h3 e p s he hp).mono ?_
  rintro en w' ⟨rfl, hB, r', hG, hr⟩
  rw [hx] at hG ⊢
  rw [hl] at hG
  refine ⟨rfl, ?_, h2, r', hG, ?_⟩
  · exact ⟨hB.os.trans h1.os, hB.tape.trans h1.tape, hB.output.trans h1.output, Nat.le_trans h1.size hB.size, fun k hk => (hB.block k (Nat.lt_of_lt_of_le hk h1.size) (fun hf => by
      rcases hf with hf | hf
      · omega
      · have := h4 k hf; omega)).trans (h1.block k hk)⟩
  · rintro b rfl
    rcases hr with rfl | ⟨b', e, hb'⟩
    · exact h4 b rfl
    · injection e with e
      subst e
      exact Nat.le_trans h1.size hb'
theorem mine_state {w0 w : World} {g : Nat} {l : Gs} (h : Mine w0 g l w) (e p : Int) (he : I64 e) (hp : I64 p) {x : Int} (hx : stateTell l e p = x) :
    Calls Try.prog 20 #[.pointer (some ⟨g, 0, none⟩), .int .i64 e, .int .i64 p] w fun en w' => en = .returned (.int .i64 x) ∧ Mine w0 g l w' := by
  obtain ⟨r, h3, h4⟩ := h.at_
  refine (state_any h3 e p he hp).mono ?_
  rintro en w' ⟨rfl, hb⟩
  exact ⟨by rw [hx], h.call hb⟩
theorem mine_may {w0 w : World} {g : Nat} {l : Gs} (h : Mine w0 g l w) (e p : Int) (he : I64 e) (hp : I64 p) {x : Int} (hx : mayTell l e p = x) :
    Calls Try.prog 21 #[.pointer (some ⟨g, 0, none⟩), .int .i64 e, .int .i64 p] w fun en w' => en = .returned (.int .i64 x) ∧ Mine w0 g l w' := by
  obtain ⟨r, h3, h4⟩ := h.at_
  refine (gmay_any h3 e p he hp).mono ?_
  rintro en w' ⟨rfl, hb⟩
  exact ⟨by rw [hx], h.call hb⟩
theorem ref_valid_true (m : Int) (w : World) (h : monthOk m = true) : Calls Try.prog 17 #[.int .i64 m] w fun e w' => e = .returned (.bool true) ∧ Below w.heap.size w w' := by
  have := ref_valid m w
  rw [h] at this
  exact this

set_option maxHeartbeats 2000000 in
theorem g5alive_any (w : World) : Calls Try.prog 18 #[] w fun en w' => en = .returned (.bool true) ∧ Below w.heap.size w w' := by
  go_enter Try.func18, Try.ntmps18
  go_wp2_with fail
  have hM1 := Mine.new (Below.refl w.heap.size w)
  refine (mine_set hM1 1 5 2 (by decide) (by decide) (x := 11) (l' := []) (by decide) (by decide)).mono ?_
  rintro en w2 ⟨rfl, hM2⟩
  go_wp2_with fail
  refine (mine_set hM2 1 5 1 (by decide) (by decide) (x := 0) (l' := [((1, 5), 1)]) (by decide) (by decide)).mono ?_
  rintro en w3 ⟨rfl, hM3⟩
  go_wp2_with fail
  refine (mine_may hM3 1 5 (by decide) (by decide) (x := 6) (by decide)).mono ?_
  rintro en w4 ⟨rfl, hM4⟩
  go_wp2_with fail
  refine (mine_set hM4 1 5 2 (by decide) (by decide) (x := 0) (l' := [((1, 5), 2)]) (by decide) (by decide)).mono ?_
  rintro en w5 ⟨rfl, hM5⟩
  go_wp2_with fail
  refine (mine_set hM5 1 5 0 (by decide) (by decide) (x := 11) (l' := [((1, 5), 2)]) (by decide) (by decide)).mono ?_
  rintro en w6 ⟨rfl, hM6⟩
  go_wp2_with fail
  refine (mine_may hM6 1 6 (by decide) (by decide) (x := 0) (by decide)).mono ?_
  rintro en w7 ⟨rfl, hM7⟩
  go_wp2_with fail
  go_ret
  exact ⟨rfl, hM7.below⟩

set_option maxHeartbeats 2000000 in
theorem ways_00 (e p : Int) (w : World) (he : I64 e) (hp : I64 p) (h1 : 1 ≤ e) (h2 : e ≤ 9) (hm : monthOk p = true) :
    Calls Try.prog 3 #[.int .i64 e, .int .i64 p, .int .i64 0, .int .i64 0] w fun en w' => en = .returned (.bool true) ∧ Below w.heap.size w w' := by
  have hpl : placeOk e p = true := by simp [placeOk, h1, h2, hm]
  have HE := Lib.hid he
  have HP := Lib.hid hp
  have HM := Lib.hid hm
  clear he hp hm
  go_enter Try.func3, Try.ntmps3
  go_wp2_with fail
  refine (ref_valid_true p _ HM.out).mono ?_
  rintro en w0 ⟨rfl, hb0⟩
  go_wp2_with fail
  refine (g5alive_any _).mono ?_
  rintro en w1 ⟨rfl, hb1⟩
  have hM1 := Mine.new (belows_then hb0 hb0.size hb1)
  clear hb0 hb1
  go_wp2_with fail
  refine (mine_set hM1 e p 0 HE.out HP.out (x := 0) (l' := []) (by simp [setE, stateOf, look, hpl, mayB]) (by simp [setL, ins, del])).mono ?_
  rintro en w2 ⟨rfl, hM2⟩
  go_wp2_with fail
  refine (mine_state hM2 e p HE.out HP.out (x := 0) (by simp [stateTell, stateOf, look, hpl])).mono ?_
  rintro en w3 ⟨rfl, hM3⟩
  go_wp2_with fail
  refine (mine_may hM3 e p HE.out HP.out (x := 0) (by simp [mayTell, stateOf, look, hpl])).mono ?_
  rintro en w4 ⟨rfl, hM4⟩
  go_wp2_with fail
  go_ret
  exact ⟨rfl, hM4.below⟩

set_option maxHeartbeats 2000000 in
theorem ways_01 (e p : Int) (w : World) (he : I64 e) (hp : I64 p) (h1 : 1 ≤ e) (h2 : e ≤ 9) (hm : monthOk p = true) :
    Calls Try.prog 3 #[.int .i64 e, .int .i64 p, .int .i64 0, .int .i64 1] w fun en w' => en = .returned (.bool true) ∧ Below w.heap.size w w' := by
  have hpl : placeOk e p = true := by simp [placeOk, h1, h2, hm]
  have HE := Lib.hid he
  have HP := Lib.hid hp
  have HM := Lib.hid hm
  clear he hp hm
  go_enter Try.func3, Try.ntmps3
  go_wp2_with fail
  refine (ref_valid_true p _ HM.out).mono ?_
  rintro en w0 ⟨rfl, hb0⟩
  go_wp2_with fail
  refine (g5alive_any _).mono ?_
  rintro en w1 ⟨rfl, hb1⟩
  have hM1 := Mine.new (belows_then hb0 hb0.size hb1)
  clear hb0 hb1
  go_wp2_with fail
  refine (mine_set hM1 e p 1 HE.out HP.out (x := 0) (l' := [((e, p), 1)]) (by simp [setE, stateOf, look, hpl, mayB]) (by simp [setL, ins, del])).mono ?_
  rintro en w2 ⟨rfl, hM2⟩
  go_wp2_with fail
  refine (mine_state hM2 e p HE.out HP.out (x := 1) (by simp [stateTell, stateOf, look, hpl])).mono ?_
  rintro en w3 ⟨rfl, hM3⟩
  go_wp2_with fail
  refine (mine_may hM3 e p HE.out HP.out (x := 6) (by simp [mayTell, stateOf, look, hpl])).mono ?_
  rintro en w4 ⟨rfl, hM4⟩
  go_wp2_with fail
  go_ret
  exact ⟨rfl, hM4.below⟩

set_option maxHeartbeats 2000000 in
theorem ways_02 (e p : Int) (w : World) (he : I64 e) (hp : I64 p) (h1 : 1 ≤ e) (h2 : e ≤ 9) (hm : monthOk p = true) :
    Calls Try.prog 3 #[.int .i64 e, .int .i64 p, .int .i64 0, .int .i64 2] w fun en w' => en = .returned (.bool true) ∧ Below w.heap.size w w' := by
  have hpl : placeOk e p = true := by simp [placeOk, h1, h2, hm]
  have HE := Lib.hid he
  have HP := Lib.hid hp
  have HM := Lib.hid hm
  clear he hp hm
  go_enter Try.func3, Try.ntmps3
  go_wp2_with fail
  refine (ref_valid_true p _ HM.out).mono ?_
  rintro en w0 ⟨rfl, hb0⟩
  go_wp2_with fail
  refine (g5alive_any _).mono ?_
  rintro en w1 ⟨rfl, hb1⟩
  have hM1 := Mine.new (belows_then hb0 hb0.size hb1)
  clear hb0 hb1
  go_wp2_with fail
  refine (mine_set hM1 e p 2 HE.out HP.out (x := 11) (l' := []) (by simp [setE, stateOf, look, hpl, mayB]) (by simp [setL, ins, del])).mono ?_
  rintro en w2 ⟨rfl, hM2⟩
  go_wp2_with fail
  refine (mine_state hM2 e p HE.out HP.out (x := 0) (by simp [stateTell, stateOf, look, hpl])).mono ?_
  rintro en w3 ⟨rfl, hM3⟩
  go_wp2_with fail
  refine (mine_may hM3 e p HE.out HP.out (x := 0) (by simp [mayTell, stateOf, look, hpl])).mono ?_
  rintro en w4 ⟨rfl, hM4⟩
  go_wp2_with fail
  go_ret
  exact ⟨rfl, hM4.below⟩

set_option maxHeartbeats 2000000 in
theorem ways_10 (e p : Int) (w : World) (he : I64 e) (hp : I64 p) (h1 : 1 ≤ e) (h2 : e ≤ 9) (hm : monthOk p = true) :
    Calls Try.prog 3 #[.int .i64 e, .int .i64 p, .int .i64 1, .int .i64 0] w fun en w' => en = .returned (.bool true) ∧ Below w.heap.size w w' := by
  have hpl : placeOk e p = true := by simp [placeOk, h1, h2, hm]
  have HE := Lib.hid he
  have HP := Lib.hid hp
  have HM := Lib.hid hm
  clear he hp hm
  go_enter Try.func3, Try.ntmps3
  go_wp2_with fail
  refine (ref_valid_true p _ HM.out).mono ?_
  rintro en w0 ⟨rfl, hb0⟩
  go_wp2_with fail
  refine (g5alive_any _).mono ?_
  rintro en w1 ⟨rfl, hb1⟩
  have hM1 := Mine.new (belows_then hb0 hb0.size hb1)
  clear hb0 hb1
  go_wp2_with fail
  refine (mine_set hM1 e p 1 HE.out HP.out (x := 0) (l' := [((e, p), 1)]) (by simp [setE, stateOf, look, hpl, mayB]) (by simp [setL, ins, del])).mono ?_
  rintro en w2 ⟨rfl, hM2⟩
  go_wp2_with fail
  refine (mine_set hM2 e p 0 HE.out HP.out (x := 0) (l' := []) (by simp [setE, stateOf, look, hpl, mayB]) (by simp [setL, ins, del])).mono ?_
  rintro en w3 ⟨rfl, hM3⟩
  go_wp2_with fail
  refine (mine_state hM3 e p HE.out HP.out (x := 0) (by simp [stateTell, stateOf, look, hpl])).mono ?_
  rintro en w4 ⟨rfl, hM4⟩
  go_wp2_with fail
  refine (mine_may hM4 e p HE.out HP.out (x := 0) (by simp [mayTell, stateOf, look, hpl])).mono ?_
  rintro en w5 ⟨rfl, hM5⟩
  go_wp2_with fail
  go_ret
  exact ⟨rfl, hM5.below⟩

set_option maxHeartbeats 2000000 in
theorem ways_11 (e p : Int) (w : World) (he : I64 e) (hp : I64 p) (h1 : 1 ≤ e) (h2 : e ≤ 9) (hm : monthOk p = true) :
    Calls Try.prog 3 #[.int .i64 e, .int .i64 p, .int .i64 1, .int .i64 1] w fun en w' => en = .returned (.bool true) ∧ Below w.heap.size w w' := by
  have hpl : placeOk e p = true := by simp [placeOk, h1, h2, hm]
  have HE := Lib.hid he
  have HP := Lib.hid hp
  have HM := Lib.hid hm
  clear he hp hm
  go_enter Try.func3, Try.ntmps3
  go_wp2_with fail
  refine (ref_valid_true p _ HM.out).mono ?_
  rintro en w0 ⟨rfl, hb0⟩
  go_wp2_with fail
  refine (g5alive_any _).mono ?_
  rintro en w1 ⟨rfl, hb1⟩
  have hM1 := Mine.new (belows_then hb0 hb0.size hb1)
  clear hb0 hb1
  go_wp2_with fail
  refine (mine_set hM1 e p 1 HE.out HP.out (x := 0) (l' := [((e, p), 1)]) (by simp [setE, stateOf, look, hpl, mayB]) (by simp [setL, ins, del])).mono ?_
  rintro en w2 ⟨rfl, hM2⟩
  go_wp2_with fail
  refine (mine_set hM2 e p 1 HE.out HP.out (x := 0) (l' := [((e, p), 1)]) (by simp [setE, stateOf, look, hpl, mayB]) (by simp [setL, ins, del])).mono ?_
  rintro en w3 ⟨rfl, hM3⟩
  go_wp2_with fail
  refine (mine_state hM3 e p HE.out HP.out (x := 1) (by simp [stateTell, stateOf, look, hpl])).mono ?_
  rintro en w4 ⟨rfl, hM4⟩
  go_wp2_with fail
  refine (mine_may hM4 e p HE.out HP.out (x := 6) (by simp [mayTell, stateOf, look, hpl])).mono ?_
  rintro en w5 ⟨rfl, hM5⟩
  go_wp2_with fail
  go_ret
  exact ⟨rfl, hM5.below⟩

set_option maxHeartbeats 2000000 in
theorem ways_12 (e p : Int) (w : World) (he : I64 e) (hp : I64 p) (h1 : 1 ≤ e) (h2 : e ≤ 9) (hm : monthOk p = true) :
    Calls Try.prog 3 #[.int .i64 e, .int .i64 p, .int .i64 1, .int .i64 2] w fun en w' => en = .returned (.bool true) ∧ Below w.heap.size w w' := by
  have hpl : placeOk e p = true := by simp [placeOk, h1, h2, hm]
  have HE := Lib.hid he
  have HP := Lib.hid hp
  have HM := Lib.hid hm
  clear he hp hm
  go_enter Try.func3, Try.ntmps3
  go_wp2_with fail
  refine (ref_valid_true p _ HM.out).mono ?_
  rintro en w0 ⟨rfl, hb0⟩
  go_wp2_with fail
  refine (g5alive_any _).mono ?_
  rintro en w1 ⟨rfl, hb1⟩
  have hM1 := Mine.new (belows_then hb0 hb0.size hb1)
  clear hb0 hb1
  go_wp2_with fail
  refine (mine_set hM1 e p 1 HE.out HP.out (x := 0) (l' := [((e, p), 1)]) (by simp [setE, stateOf, look, hpl, mayB]) (by simp [setL, ins, del])).mono ?_
  rintro en w2 ⟨rfl, hM2⟩
  go_wp2_with fail
  refine (mine_set hM2 e p 2 HE.out HP.out (x := 0) (l' := [((e, p), 2)]) (by simp [setE, stateOf, look, hpl, mayB]) (by simp [setL, ins, del])).mono ?_
  rintro en w3 ⟨rfl, hM3⟩
  go_wp2_with fail
  refine (mine_state hM3 e p HE.out HP.out (x := 2) (by simp [stateTell, stateOf, look, hpl])).mono ?_
  rintro en w4 ⟨rfl, hM4⟩
  go_wp2_with fail
  refine (mine_may hM4 e p HE.out HP.out (x := 6) (by simp [mayTell, stateOf, look, hpl])).mono ?_
  rintro en w5 ⟨rfl, hM5⟩
  go_wp2_with fail
  go_ret
  exact ⟨rfl, hM5.below⟩

set_option maxHeartbeats 2000000 in
theorem ways_20 (e p : Int) (w : World) (he : I64 e) (hp : I64 p) (h1 : 1 ≤ e) (h2 : e ≤ 9) (hm : monthOk p = true) :
    Calls Try.prog 3 #[.int .i64 e, .int .i64 p, .int .i64 2, .int .i64 0] w fun en w' => en = .returned (.bool true) ∧ Below w.heap.size w w' := by
  have hpl : placeOk e p = true := by simp [placeOk, h1, h2, hm]
  have HE := Lib.hid he
  have HP := Lib.hid hp
  have HM := Lib.hid hm
  clear he hp hm
  go_enter Try.func3, Try.ntmps3
  go_wp2_with fail
  refine (ref_valid_true p _ HM.out).mono ?_
  rintro en w0 ⟨rfl, hb0⟩
  go_wp2_with fail
  refine (g5alive_any _).mono ?_
  rintro en w1 ⟨rfl, hb1⟩
  have hM1 := Mine.new (belows_then hb0 hb0.size hb1)
  clear hb0 hb1
  go_wp2_with fail
  refine (mine_set hM1 e p 1 HE.out HP.out (x := 0) (l' := [((e, p), 1)]) (by simp [setE, stateOf, look, hpl, mayB]) (by simp [setL, ins, del])).mono ?_
  rintro en w2 ⟨rfl, hM2⟩
  go_wp2_with fail
  refine (mine_set hM2 e p 2 HE.out HP.out (x := 0) (l' := [((e, p), 2)]) (by simp [setE, stateOf, look, hpl, mayB]) (by simp [setL, ins, del])).mono ?_
  rintro en w3 ⟨rfl, hM3⟩
  go_wp2_with fail
  refine (mine_set hM3 e p 0 HE.out HP.out (x := 11) (l' := [((e, p), 2)]) (by simp [setE, stateOf, look, hpl, mayB]) (by simp [setL, ins, del])).mono ?_
  rintro en w4 ⟨rfl, hM4⟩
  go_wp2_with fail
  refine (mine_state hM4 e p HE.out HP.out (x := 2) (by simp [stateTell, stateOf, look, hpl])).mono ?_
  rintro en w5 ⟨rfl, hM5⟩
  go_wp2_with fail
  refine (mine_may hM5 e p HE.out HP.out (x := 6) (by simp [mayTell, stateOf, look, hpl])).mono ?_
  rintro en w6 ⟨rfl, hM6⟩
  go_wp2_with fail
  go_ret
  exact ⟨rfl, hM6.below⟩

set_option maxHeartbeats 2000000 in
theorem ways_21 (e p : Int) (w : World) (he : I64 e) (hp : I64 p) (h1 : 1 ≤ e) (h2 : e ≤ 9) (hm : monthOk p = true) :
    Calls Try.prog 3 #[.int .i64 e, .int .i64 p, .int .i64 2, .int .i64 1] w fun en w' => en = .returned (.bool true) ∧ Below w.heap.size w w' := by
  have hpl : placeOk e p = true := by simp [placeOk, h1, h2, hm]
  have HE := Lib.hid he
  have HP := Lib.hid hp
  have HM := Lib.hid hm
  clear he hp hm
  go_enter Try.func3, Try.ntmps3
  go_wp2_with fail
  refine (ref_valid_true p _ HM.out).mono ?_
  rintro en w0 ⟨rfl, hb0⟩
  go_wp2_with fail
  refine (g5alive_any _).mono ?_
  rintro en w1 ⟨rfl, hb1⟩
  have hM1 := Mine.new (belows_then hb0 hb0.size hb1)
  clear hb0 hb1
  go_wp2_with fail
  refine (mine_set hM1 e p 1 HE.out HP.out (x := 0) (l' := [((e, p), 1)]) (by simp [setE, stateOf, look, hpl, mayB]) (by simp [setL, ins, del])).mono ?_
  rintro en w2 ⟨rfl, hM2⟩
  go_wp2_with fail
  refine (mine_set hM2 e p 2 HE.out HP.out (x := 0) (l' := [((e, p), 2)]) (by simp [setE, stateOf, look, hpl, mayB]) (by simp [setL, ins, del])).mono ?_
  rintro en w3 ⟨rfl, hM3⟩
  go_wp2_with fail
  refine (mine_set hM3 e p 1 HE.out HP.out (x := 11) (l' := [((e, p), 2)]) (by simp [setE, stateOf, look, hpl, mayB]) (by simp [setL, ins, del])).mono ?_
  rintro en w4 ⟨rfl, hM4⟩
  go_wp2_with fail
  refine (mine_state hM4 e p HE.out HP.out (x := 2) (by simp [stateTell, stateOf, look, hpl])).mono ?_
  rintro en w5 ⟨rfl, hM5⟩
  go_wp2_with fail
  refine (mine_may hM5 e p HE.out HP.out (x := 6) (by simp [mayTell, stateOf, look, hpl])).mono ?_
  rintro en w6 ⟨rfl, hM6⟩
  go_wp2_with fail
  go_ret
  exact ⟨rfl, hM6.below⟩

set_option maxHeartbeats 2000000 in
theorem ways_22 (e p : Int) (w : World) (he : I64 e) (hp : I64 p) (h1 : 1 ≤ e) (h2 : e ≤ 9) (hm : monthOk p = true) :
    Calls Try.prog 3 #[.int .i64 e, .int .i64 p, .int .i64 2, .int .i64 2] w fun en w' => en = .returned (.bool true) ∧ Below w.heap.size w w' := by
  have hpl : placeOk e p = true := by simp [placeOk, h1, h2, hm]
  have HE := Lib.hid he
  have HP := Lib.hid hp
  have HM := Lib.hid hm
  clear he hp hm
  go_enter Try.func3, Try.ntmps3
  go_wp2_with fail
  refine (ref_valid_true p _ HM.out).mono ?_
  rintro en w0 ⟨rfl, hb0⟩
  go_wp2_with fail
  refine (g5alive_any _).mono ?_
  rintro en w1 ⟨rfl, hb1⟩
  have hM1 := Mine.new (belows_then hb0 hb0.size hb1)
  clear hb0 hb1
  go_wp2_with fail
  refine (mine_set hM1 e p 1 HE.out HP.out (x := 0) (l' := [((e, p), 1)]) (by simp [setE, stateOf, look, hpl, mayB]) (by simp [setL, ins, del])).mono ?_
  rintro en w2 ⟨rfl, hM2⟩
  go_wp2_with fail
  refine (mine_set hM2 e p 2 HE.out HP.out (x := 0) (l' := [((e, p), 2)]) (by simp [setE, stateOf, look, hpl, mayB]) (by simp [setL, ins, del])).mono ?_
  rintro en w3 ⟨rfl, hM3⟩
  go_wp2_with fail
  refine (mine_set hM3 e p 2 HE.out HP.out (x := 11) (l' := [((e, p), 2)]) (by simp [setE, stateOf, look, hpl, mayB]) (by simp [setL, ins, del])).mono ?_
  rintro en w4 ⟨rfl, hM4⟩
  go_wp2_with fail
  refine (mine_state hM4 e p HE.out HP.out (x := 2) (by simp [stateTell, stateOf, look, hpl])).mono ?_
  rintro en w5 ⟨rfl, hM5⟩
  go_wp2_with fail
  refine (mine_may hM5 e p HE.out HP.out (x := 6) (by simp [mayTell, stateOf, look, hpl])).mono ?_
  rintro en w6 ⟨rfl, hM6⟩
  go_wp2_with fail
  go_ret
  exact ⟨rfl, hM6.below⟩

end Go.Proofs.Ythcomffnjmliaaa
