/- The law GatesApart, walked. -/
import Derived.Test.YthcomffnjmliaaaGe
import Derived.Test.YthcomffnjmliaaaKe
set_option linter.unusedVariables false
set_option linter.unusedSimpArgs false
namespace Go.Proofs.Ythcomffnjmliaaa
open Go.RowKit Go.Maps

/-- a Gates of the call's own whose map was made -/
structure MineS (w0 : World) (g : Nat) (l : Gs) (w : World) : Prop where
  below : Below w0.heap.size w0 w
  ge : w0.heap.size ≤ g
  at_ : ∃ b, GatesAt w g (some b) l ∧ w0.heap.size ≤ b
theorem Mine.some {w0 w : World} {g : Nat} {l : Gs} (h : Mine w0 g l w) (hl : l ≠ []) : MineS w0 g l w := by
  obtain ⟨h1, h2, r, h3, h4⟩ := h
  rcases h3.map with ⟨_, hx⟩ | ⟨b, rfl, _⟩
  · exact absurd hx hl
  · exact ⟨h1, h2, b, h3, h4 b rfl⟩
theorem MineS.mine {w0 w : World} {g : Nat} {l : Gs} (h : MineS w0 g l w) : Mine w0 g l w := by
  obtain ⟨h1, h2, b, h3, h4⟩ := h
  exact ⟨h1, h2, _, h3, fun b' e => by injection e with e; subst e; exact h4⟩
theorem MineS.call {w0 w w1 : World} {g : Nat} {l : Gs} (h : MineS w0 g l w) (hb : Below w.heap.size w w1) : MineS w0 g l w1 := by
  obtain ⟨h1, h2, r, h3, h4⟩ := h
  exact ⟨belows_then h1 h1.size hb, h2, r, h3.below hb, h4⟩
theorem mineS_may {w0 w : World} {g : Nat} {l : Gs} (h : MineS w0 g l w) (e p : Int) (he : I64 e) (hp : I64 p) {x : Int} (hx : mayTell l e p = x) :
    Calls Try.prog 21 #[.pointer (some ⟨g, 0, none⟩), .int .i64 e, .int .i64 p] w fun en w' => en = .returned (.int .i64 x) ∧ MineS w0 g l w' := by
  obtain ⟨r, h3, h4⟩ := h.at_
  refine (gmay_any h3 e p he hp).mono ?_
  rintro en w' ⟨rfl, hb⟩
  exact ⟨by rw [hx], h.call hb⟩
theorem mineS_set {w0 w : World} {g : Nat} {l : Gs} (h : MineS w0 g l w) (e p s : Int) (he : I64 e) (hp : I64 p) {x : Int} {l' : Gs} (hx : setE l e p s = x) (hl : (if x = 0 then setL l e p s else l) = l') :
    Calls Try.prog 19 #[.pointer (some ⟨g, 0, none⟩), .int .i64 e, .int .i64 p, .int .i64 s] w fun en w' => en = .returned (.int .i64 x) ∧ MineS w0 g l' w' := by
  obtain ⟨h1, h2, b0, h3, h4⟩ := h
  refine (set_any h3 e p s he hp).mono ?_
  rintro en w' ⟨rfl, hB, r', hG, hr⟩
  rw [hx] at hG ⊢
  rw [hl] at hG
  have hr' : ∃ b, r' = some b ∧ w0.heap.size ≤ b := by
    rcases hr with rfl | ⟨b', e, hb'⟩
    · exact ⟨b0, rfl, h4⟩
    · exact ⟨b', e, Nat.le_trans h1.size hb'⟩
  obtain ⟨b, rfl, hb⟩ := hr'
  refine ⟨rfl, ?_, h2, b, hG, hb⟩
  exact ⟨hB.os.trans h1.os, hB.tape.trans h1.tape, hB.output.trans h1.output, Nat.le_trans h1.size hB.size, fun k hk => (hB.block k (Nat.lt_of_lt_of_le hk h1.size) (fun hf => by
      rcases hf with hf | hf
      · omega
      · injection hf with hf; omega)).trans (h1.block k hk)⟩
theorem mineS_all {w0 w : World} {g : Nat} {l : Gs} (h : MineS w0 g l w) {n : Nat} (hn : l.length = n) (hl : n ≤ 1) :
    Calls Try.prog 33 #[.pointer (some ⟨g, 0, none⟩)] w fun en w' => (∃ a cap, en = .returned (.slice a n cap)) ∧ MineS w0 g l w' := by
  obtain ⟨b, h3, h4⟩ := h.at_
  subst hn
  refine (all_small h3 hl).mono ?_
  rintro en w' ⟨h5, hb⟩
  exact ⟨h5, h.call hb⟩

set_option maxHeartbeats 2000000 in
theorem apart_early (e p o l : Int) (w : World) (h : e < 1 ∨ 1 ≤ e ∧ 9 < e) :
    Calls Try.prog 7 #[.int .i64 e, .int .i64 p, .int .i64 o, .int .i64 l] w fun en w' => en = .returned (.bool true) ∧ Below w.heap.size w w' := by
  rcases h with h | ⟨h0, h⟩
  all_goals
    go_enter Try.func7, Try.ntmps7
    go_wp2_with fail
    refine (g5alive_any _).mono ?_
    rintro en w1 ⟨rfl, hb1⟩
    go_wp2_with fail
    go_ret
    exact ⟨rfl, hb1⟩

set_option maxHeartbeats 2000000 in
theorem apart_month (e p o l : Int) (w : World) (h1 : 1 ≤ e) (h2 : e ≤ 9) (hm : monthOk p = false) :
    Calls Try.prog 7 #[.int .i64 e, .int .i64 p, .int .i64 o, .int .i64 l] w fun en w' => en = .returned (.bool true) ∧ Below w.heap.size w w' := by
  have hr := fun W => ref_valid p W
  rw [hm] at hr
  have HR := Lib.hid hr
  clear hr hm
  go_enter Try.func7, Try.ntmps7
  go_wp2_with fail
  refine (HR.out _).mono ?_
  rintro en w0 ⟨rfl, hb0⟩
  go_wp2_with fail
  refine (g5alive_any _).mono ?_
  rintro en w1 ⟨rfl, hb1⟩
  have hB := belows_then hb0 hb0.size hb1
  clear hb0 hb1
  go_wp2_with fail
  go_ret
  exact ⟨rfl, hB⟩

def apartWant (e p o l : Int) : Int := if (o == e && l == p) then 6 else if placeOk o l then 0 else 1
theorem apart_may (e p o l : Int) (he : placeOk e p = true) : mayTell [((e, p), 1)] o l = apartWant e p o l := by
  unfold apartWant mayTell
  by_cases h : o = e ∧ l = p
  · obtain ⟨rfl, rfl⟩ := h
    simp [he, stateOf, look]
  · have h1 : (o == e && l == p) = false := by
      rw [Bool.and_eq_false_iff]
      by_cases h2 : o = e
      · right; simp; intro h3; exact h ⟨h2, h3⟩
      · left; simpa using h2
    have h2 : ¬ (e = o ∧ p = l) := fun h3 => h ⟨h3.1.symm, h3.2.symm⟩
    rw [h1]
    simp [stateOf, look, h2]

theorem ref_valid_is (m : Int) {b : Bool} (h : monthOk m = b) (w : World) : Calls Try.prog 17 #[.int .i64 m] w fun e w' => e = .returned (.bool b) ∧ Below w.heap.size w w' := by
  have := ref_valid m w
  rw [h] at this
  exact this

set_option maxHeartbeats 4000000 in
theorem apart_same (e p o l : Int) (w : World) (he : I64 e) (hp : I64 p) (ho : I64 o) (hl : I64 l) (h1 : 1 ≤ e) (h2 : e ≤ 9) (hm : monthOk p = true)
    (hc : (o = e ∧ l = p) ∨ ((o = e ∧ (l == p) = false ∧ monthOk l = true) ∨ (o = e ∧ (l == p) = false ∧ monthOk l = false))) :
    Calls Try.prog 7 #[.int .i64 e, .int .i64 p, .int .i64 o, .int .i64 l] w fun en w' => en = .returned (.bool true) ∧ Below w.heap.size w w' := by
  have hpl : placeOk e p = true := by simp [placeOk, h1, h2, hm]
  have hmay := apart_may e p o l hpl
  have HPL := Lib.hid hpl
  have HMAY := Lib.hid hmay
  have HE := Lib.hid he
  have HP := Lib.hid hp
  have HO := Lib.hid ho
  have HLL := Lib.hid hl
  have HM := Lib.hid hm
  clear he hp hm ho hl hpl hmay
  rcases hc with ⟨rfl, rfl⟩ | ⟨rfl, hlp, hml⟩ | ⟨rfl, hlp, hml⟩
  · have HW : Hid (apartWant o l o l = 6) := by show _ = _; simp [apartWant]
    have HV := HM
    go_enter Try.func7, Try.ntmps7
    go_wp2_with fail
    refine (ref_valid_true l _ HM.out).mono ?_
    rintro en w0 ⟨rfl, hb0⟩
    go_wp2_with fail
    refine (g5alive_any _).mono ?_
    rintro en w1 ⟨rfl, hb1⟩
    have hM1 := Mine.new (belows_then hb0 hb0.size hb1)
    clear hb0 hb1
    go_wp2_with fail
    refine (mine_set hM1 o l 1 HE.out HP.out (x := 0) (l' := [((o, l), 1)]) (by simp [setE, stateOf, look, HPL.out, mayB]) (by simp [setL, ins, del])).mono ?_
    rintro en w2 ⟨rfl, hM2⟩
    have hS2 := hM2.some (by simp)
    clear hM2
    go_wp2_with fail
    refine (mineS_all hS2 (n := 1) rfl (Nat.le_refl _)).mono ?_
    rintro en w3 ⟨⟨a3, c3, rfl⟩, hS4⟩
    go_wp2_with fail
    refine (ref_valid_is l HV.out _).mono ?_
    rintro en w4 ⟨rfl, hb4⟩
    have hS4 := hS4.call hb4
    clear hb4
    go_wp2_with fail
    refine (mineS_may hS4 o l HO.out HLL.out (x := 6) (by rw [HMAY.out, HW.out])).mono ?_
    rintro en w5 ⟨rfl, hS5⟩
    go_wp2_with fail
    refine (mineS_set hS5 o l 0 HE.out HP.out (x := 0) (l' := []) (by simp [setE, stateOf, look, HPL.out, mayB]) (by simp [setL, ins, del])).mono ?_
    rintro en w6 ⟨rfl, hS6⟩
    go_wp2_with fail
    refine (mineS_all hS6 (n := 0) rfl (Nat.zero_le _)).mono ?_
    rintro en w7 ⟨⟨a7, c7, rfl⟩, hS7⟩
    go_wp2_with fail
    refine (mineS_may hS7 o l HE.out HP.out (x := 0) (by simp [mayTell, stateOf, look, HPL.out])).mono ?_
    rintro en w8 ⟨rfl, hS8⟩
    go_wp2_with fail
    go_ret
    exact ⟨rfl, hS8.below⟩
  · have HW : Hid (apartWant o p o l = 0) := by show _ = _; simp [apartWant, hlp, placeOk, hml, h1, h2]
    have HV := Lib.hid hml
    clear hml
    go_enter Try.func7, Try.ntmps7
    go_wp2_with fail
    refine (ref_valid_true p _ HM.out).mono ?_
    rintro en w0 ⟨rfl, hb0⟩
    go_wp2_with fail
    refine (g5alive_any _).mono ?_
    rintro en w1 ⟨rfl, hb1⟩
    have hM1 := Mine.new (belows_then hb0 hb0.size hb1)
    clear hb0 hb1
    go_wp2_with fail
    refine (mine_set hM1 o p 1 HE.out HP.out (x := 0) (l' := [((o, p), 1)]) (by simp [setE, stateOf, look, HPL.out, mayB]) (by simp [setL, ins, del])).mono ?_
    rintro en w2 ⟨rfl, hM2⟩
    have hS2 := hM2.some (by simp)
    clear hM2
    go_wp2_with fail
    refine (mineS_all hS2 (n := 1) rfl (Nat.le_refl _)).mono ?_
    rintro en w3 ⟨⟨a3, c3, rfl⟩, hS4⟩
    go_wp2_with fail
    refine (ref_valid_is l HV.out _).mono ?_
    rintro en w4 ⟨rfl, hb4⟩
    have hS4 := hS4.call hb4
    clear hb4
    go_wp2_with fail
    refine (mineS_may hS4 o l HO.out HLL.out (x := 0) (by rw [HMAY.out, HW.out])).mono ?_
    rintro en w5 ⟨rfl, hS5⟩
    go_wp2_with fail
    refine (mineS_set hS5 o p 0 HE.out HP.out (x := 0) (l' := []) (by simp [setE, stateOf, look, HPL.out, mayB]) (by simp [setL, ins, del])).mono ?_
    rintro en w6 ⟨rfl, hS6⟩
    go_wp2_with fail
    refine (mineS_all hS6 (n := 0) rfl (Nat.zero_le _)).mono ?_
    rintro en w7 ⟨⟨a7, c7, rfl⟩, hS7⟩
    go_wp2_with fail
    refine (mineS_may hS7 o p HE.out HP.out (x := 0) (by simp [mayTell, stateOf, look, HPL.out])).mono ?_
    rintro en w8 ⟨rfl, hS8⟩
    go_wp2_with fail
    go_ret
    exact ⟨rfl, hS8.below⟩
  · have HW : Hid (apartWant o p o l = 1) := by show _ = _; simp [apartWant, hlp, placeOk, hml, h1, h2]
    have HV := Lib.hid hml
    clear hml
    go_enter Try.func7, Try.ntmps7
    go_wp2_with fail
    refine (ref_valid_true p _ HM.out).mono ?_
    rintro en w0 ⟨rfl, hb0⟩
    go_wp2_with fail
    refine (g5alive_any _).mono ?_
    rintro en w1 ⟨rfl, hb1⟩
    have hM1 := Mine.new (belows_then hb0 hb0.size hb1)
    clear hb0 hb1
    go_wp2_with fail
    refine (mine_set hM1 o p 1 HE.out HP.out (x := 0) (l' := [((o, p), 1)]) (by simp [setE, stateOf, look, HPL.out, mayB]) (by simp [setL, ins, del])).mono ?_
    rintro en w2 ⟨rfl, hM2⟩
    have hS2 := hM2.some (by simp)
    clear hM2
    go_wp2_with fail
    refine (mineS_all hS2 (n := 1) rfl (Nat.le_refl _)).mono ?_
    rintro en w3 ⟨⟨a3, c3, rfl⟩, hS4⟩
    go_wp2_with fail
    refine (ref_valid_is l HV.out _).mono ?_
    rintro en w4 ⟨rfl, hb4⟩
    have hS4 := hS4.call hb4
    clear hb4
    go_wp2_with fail
    refine (mineS_may hS4 o l HO.out HLL.out (x := 1) (by rw [HMAY.out, HW.out])).mono ?_
    rintro en w5 ⟨rfl, hS5⟩
    go_wp2_with fail
    refine (mineS_set hS5 o p 0 HE.out HP.out (x := 0) (l' := []) (by simp [setE, stateOf, look, HPL.out, mayB]) (by simp [setL, ins, del])).mono ?_
    rintro en w6 ⟨rfl, hS6⟩
    go_wp2_with fail
    refine (mineS_all hS6 (n := 0) rfl (Nat.zero_le _)).mono ?_
    rintro en w7 ⟨⟨a7, c7, rfl⟩, hS7⟩
    go_wp2_with fail
    refine (mineS_may hS7 o p HE.out HP.out (x := 0) (by simp [mayTell, stateOf, look, HPL.out])).mono ?_
    rintro en w8 ⟨rfl, hS8⟩
    go_wp2_with fail
    go_ret
    exact ⟨rfl, hS8.below⟩

set_option maxHeartbeats 4000000 in
theorem apart_other (e p o l : Int) (w : World) (he : I64 e) (hp : I64 p) (ho : I64 o) (hl : I64 l) (h1 : 1 ≤ e) (h2 : e ≤ 9) (hm : monthOk p = true) (hoe : (o == e) = false)
    (hc : o < 1 ∨ (1 ≤ o ∧ 9 < o) ∨ (1 ≤ o ∧ o ≤ 9 ∧ monthOk l = true) ∨ (1 ≤ o ∧ o ≤ 9 ∧ monthOk l = false)) :
    Calls Try.prog 7 #[.int .i64 e, .int .i64 p, .int .i64 o, .int .i64 l] w fun en w' => en = .returned (.bool true) ∧ Below w.heap.size w w' := by
  have hpl : placeOk e p = true := by simp [placeOk, h1, h2, hm]
  have hmay := apart_may e p o l hpl
  have HPL := Lib.hid hpl
  have HMAY := Lib.hid hmay
  have HE := Lib.hid he
  have HP := Lib.hid hp
  have HO := Lib.hid ho
  have HLL := Lib.hid hl
  have HM := Lib.hid hm
  clear he hp hm ho hl hpl hmay
  rcases hc with h3 | ⟨h3, h4⟩ | ⟨h3, h4, hml⟩ | ⟨h3, h4, hml⟩
  · have HW : Hid (apartWant e p o l = 1) := by
      have : placeOk o l = false := by simp [placeOk]; omega
      show _ = _; simp [apartWant, hoe, this]
    go_enter Try.func7, Try.ntmps7
    go_wp2_with fail
    refine (ref_valid_true p _ HM.out).mono ?_
    rintro en w0 ⟨rfl, hb0⟩
    go_wp2_with fail
    refine (g5alive_any _).mono ?_
    rintro en w1 ⟨rfl, hb1⟩
    have hM1 := Mine.new (belows_then hb0 hb0.size hb1)
    clear hb0 hb1
    go_wp2_with fail
    refine (mine_set hM1 e p 1 HE.out HP.out (x := 0) (l' := [((e, p), 1)]) (by simp [setE, stateOf, look, HPL.out, mayB]) (by simp [setL, ins, del])).mono ?_
    rintro en w2 ⟨rfl, hM2⟩
    have hS2 := hM2.some (by simp)
    clear hM2
    go_wp2_with fail
    refine (mineS_all hS2 (n := 1) rfl (Nat.le_refl _)).mono ?_
    rintro en w3 ⟨⟨a3, c3, rfl⟩, hS4⟩
    go_wp2_with fail
    refine (mineS_may hS4 o l HO.out HLL.out (x := 1) (by rw [HMAY.out, HW.out])).mono ?_
    rintro en w5 ⟨rfl, hS5⟩
    go_wp2_with fail
    refine (mineS_set hS5 e p 0 HE.out HP.out (x := 0) (l' := []) (by simp [setE, stateOf, look, HPL.out, mayB]) (by simp [setL, ins, del])).mono ?_
    rintro en w6 ⟨rfl, hS6⟩
    go_wp2_with fail
    refine (mineS_all hS6 (n := 0) rfl (Nat.zero_le _)).mono ?_
    rintro en w7 ⟨⟨a7, c7, rfl⟩, hS7⟩
    go_wp2_with fail
    refine (mineS_may hS7 e p HE.out HP.out (x := 0) (by simp [mayTell, stateOf, look, HPL.out])).mono ?_
    rintro en w8 ⟨rfl, hS8⟩
    go_wp2_with fail
    go_ret
    exact ⟨rfl, hS8.below⟩
  · have HW : Hid (apartWant e p o l = 1) := by
      have : placeOk o l = false := by simp [placeOk]; omega
      show _ = _; simp [apartWant, hoe, this]
    go_enter Try.func7, Try.ntmps7
    go_wp2_with fail
    refine (ref_valid_true p _ HM.out).mono ?_
    rintro en w0 ⟨rfl, hb0⟩
    go_wp2_with fail
    refine (g5alive_any _).mono ?_
    rintro en w1 ⟨rfl, hb1⟩
    have hM1 := Mine.new (belows_then hb0 hb0.size hb1)
    clear hb0 hb1
    go_wp2_with fail
    refine (mine_set hM1 e p 1 HE.out HP.out (x := 0) (l' := [((e, p), 1)]) (by simp [setE, stateOf, look, HPL.out, mayB]) (by simp [setL, ins, del])).mono ?_
    rintro en w2 ⟨rfl, hM2⟩
    have hS2 := hM2.some (by simp)
    clear hM2
    go_wp2_with fail
    refine (mineS_all hS2 (n := 1) rfl (Nat.le_refl _)).mono ?_
    rintro en w3 ⟨⟨a3, c3, rfl⟩, hS4⟩
    go_wp2_with fail
    refine (mineS_may hS4 o l HO.out HLL.out (x := 1) (by rw [HMAY.out, HW.out])).mono ?_
    rintro en w5 ⟨rfl, hS5⟩
    go_wp2_with fail
    refine (mineS_set hS5 e p 0 HE.out HP.out (x := 0) (l' := []) (by simp [setE, stateOf, look, HPL.out, mayB]) (by simp [setL, ins, del])).mono ?_
    rintro en w6 ⟨rfl, hS6⟩
    go_wp2_with fail
    refine (mineS_all hS6 (n := 0) rfl (Nat.zero_le _)).mono ?_
    rintro en w7 ⟨⟨a7, c7, rfl⟩, hS7⟩
    go_wp2_with fail
    refine (mineS_may hS7 e p HE.out HP.out (x := 0) (by simp [mayTell, stateOf, look, HPL.out])).mono ?_
    rintro en w8 ⟨rfl, hS8⟩
    go_wp2_with fail
    go_ret
    exact ⟨rfl, hS8.below⟩
  · have HW : Hid (apartWant e p o l = 0) := by show _ = _; simp [apartWant, hoe, placeOk, hml, h3, h4]
    have HV := Lib.hid hml
    clear hml
    go_enter Try.func7, Try.ntmps7
    go_wp2_with fail
    refine (ref_valid_true p _ HM.out).mono ?_
    rintro en w0 ⟨rfl, hb0⟩
    go_wp2_with fail
    refine (g5alive_any _).mono ?_
    rintro en w1 ⟨rfl, hb1⟩
    have hM1 := Mine.new (belows_then hb0 hb0.size hb1)
    clear hb0 hb1
    go_wp2_with fail
    refine (mine_set hM1 e p 1 HE.out HP.out (x := 0) (l' := [((e, p), 1)]) (by simp [setE, stateOf, look, HPL.out, mayB]) (by simp [setL, ins, del])).mono ?_
    rintro en w2 ⟨rfl, hM2⟩
    have hS2 := hM2.some (by simp)
    clear hM2
    go_wp2_with fail
    refine (mineS_all hS2 (n := 1) rfl (Nat.le_refl _)).mono ?_
    rintro en w3 ⟨⟨a3, c3, rfl⟩, hS4⟩
    go_wp2_with fail
    refine (ref_valid_is l HV.out _).mono ?_
    rintro en w4 ⟨rfl, hb4⟩
    have hS4 := hS4.call hb4
    clear hb4
    go_wp2_with fail
    refine (mineS_may hS4 o l HO.out HLL.out (x := 0) (by rw [HMAY.out, HW.out])).mono ?_
    rintro en w5 ⟨rfl, hS5⟩
    go_wp2_with fail
    refine (mineS_set hS5 e p 0 HE.out HP.out (x := 0) (l' := []) (by simp [setE, stateOf, look, HPL.out, mayB]) (by simp [setL, ins, del])).mono ?_
    rintro en w6 ⟨rfl, hS6⟩
    go_wp2_with fail
    refine (mineS_all hS6 (n := 0) rfl (Nat.zero_le _)).mono ?_
    rintro en w7 ⟨⟨a7, c7, rfl⟩, hS7⟩
    go_wp2_with fail
    refine (mineS_may hS7 e p HE.out HP.out (x := 0) (by simp [mayTell, stateOf, look, HPL.out])).mono ?_
    rintro en w8 ⟨rfl, hS8⟩
    go_wp2_with fail
    go_ret
    exact ⟨rfl, hS8.below⟩
  · have HW : Hid (apartWant e p o l = 1) := by show _ = _; simp [apartWant, hoe, placeOk, hml, h3, h4]
    have HV := Lib.hid hml
    clear hml
    go_enter Try.func7, Try.ntmps7
    go_wp2_with fail
    refine (ref_valid_true p _ HM.out).mono ?_
    rintro en w0 ⟨rfl, hb0⟩
    go_wp2_with fail
    refine (g5alive_any _).mono ?_
    rintro en w1 ⟨rfl, hb1⟩
    have hM1 := Mine.new (belows_then hb0 hb0.size hb1)
    clear hb0 hb1
    go_wp2_with fail
    refine (mine_set hM1 e p 1 HE.out HP.out (x := 0) (l' := [((e, p), 1)]) (by simp [setE, stateOf, look, HPL.out, mayB]) (by simp [setL, ins, del])).mono ?_
    rintro en w2 ⟨rfl, hM2⟩
    have hS2 := hM2.some (by simp)
    clear hM2
    go_wp2_with fail
    refine (mineS_all hS2 (n := 1) rfl (Nat.le_refl _)).mono ?_
    rintro en w3 ⟨⟨a3, c3, rfl⟩, hS4⟩
    go_wp2_with fail
    refine (ref_valid_is l HV.out _).mono ?_
    rintro en w4 ⟨rfl, hb4⟩
    have hS4 := hS4.call hb4
    clear hb4
    go_wp2_with fail
    refine (mineS_may hS4 o l HO.out HLL.out (x := 1) (by rw [HMAY.out, HW.out])).mono ?_
    rintro en w5 ⟨rfl, hS5⟩
    go_wp2_with fail
    refine (mineS_set hS5 e p 0 HE.out HP.out (x := 0) (l' := []) (by simp [setE, stateOf, look, HPL.out, mayB]) (by simp [setL, ins, del])).mono ?_
    rintro en w6 ⟨rfl, hS6⟩
    go_wp2_with fail
    refine (mineS_all hS6 (n := 0) rfl (Nat.zero_le _)).mono ?_
    rintro en w7 ⟨⟨a7, c7, rfl⟩, hS7⟩
    go_wp2_with fail
    refine (mineS_may hS7 e p HE.out HP.out (x := 0) (by simp [mayTell, stateOf, look, HPL.out])).mono ?_
    rintro en w8 ⟨rfl, hS8⟩
    go_wp2_with fail
    go_ret
    exact ⟨rfl, hS8.below⟩

theorem apart_any (e p o l : Int) (w : World) (he : I64 e) (hp : I64 p) (ho : I64 o) (hl : I64 l) :
    Calls Try.prog 7 #[.int .i64 e, .int .i64 p, .int .i64 o, .int .i64 l] w fun en w' => en = .returned (.bool true) ∧ Below w.heap.size w w' := by
  by_cases h1 : 1 ≤ e
  · by_cases h2 : e ≤ 9
    · cases hm : monthOk p
      · exact apart_month e p o l w h1 h2 hm
      · by_cases hoe : o = e
        · refine apart_same e p o l w he hp ho hl h1 h2 hm ?_
          by_cases hlp : l = p
          · exact .inl ⟨hoe, hlp⟩
          · have hlp' : (l == p) = false := by simpa using hlp
            cases hml : monthOk l
            · exact .inr (.inr ⟨hoe, hlp', rfl⟩)
            · exact .inr (.inl ⟨hoe, hlp', rfl⟩)
        · refine apart_other e p o l w he hp ho hl h1 h2 hm (by simpa using hoe) ?_
          by_cases h3 : 1 ≤ o
          · by_cases h4 : o ≤ 9
            · cases hml : monthOk l
              · exact .inr (.inr (.inr ⟨h3, h4, rfl⟩))
              · exact .inr (.inr (.inl ⟨h3, h4, rfl⟩))
            · exact .inr (.inl ⟨h3, by omega⟩)
          · exact .inl (by omega)
    · exact apart_early e p o l w (.inr ⟨h1, by omega⟩)
  · exact apart_early e p o l w (.inl (by omega))
end Go.Proofs.Ythcomffnjmliaaa
