/- The law GatesWays, walked: at every place and every two states. -/
import Derived.Test.YthcomffnjmliaaaGd
set_option linter.unusedVariables false
set_option linter.unusedSimpArgs false
namespace Go.Proofs.Ythcomffnjmliaaa
open Go.RowKit Go.Maps

set_option maxHeartbeats 2000000 in
theorem ways_early (e p f t : Int) (w : World) (h : e < 1 ∨ 1 ≤ e ∧ 9 < e) :
    Calls Try.prog 3 #[.int .i64 e, .int .i64 p, .int .i64 f, .int .i64 t] w fun en w' => en = .returned (.bool true) ∧ Below w.heap.size w w' := by
  rcases h with h | ⟨h0, h⟩
  all_goals
    go_enter Try.func3, Try.ntmps3
    go_wp2_with fail
    refine (g5alive_any _).mono ?_
    rintro en w1 ⟨rfl, hb1⟩
    go_wp2_with fail
    go_ret
    exact ⟨rfl, hb1⟩

set_option maxHeartbeats 2000000 in
theorem ways_month (e p f t : Int) (w : World) (h1 : 1 ≤ e) (h2 : e ≤ 9) (hm : monthOk p = false) :
    Calls Try.prog 3 #[.int .i64 e, .int .i64 p, .int .i64 f, .int .i64 t] w fun en w' => en = .returned (.bool true) ∧ Below w.heap.size w w' := by
  have hr := fun W => ref_valid p W
  rw [hm] at hr
  have HR := Lib.hid hr
  clear hr hm
  go_enter Try.func3, Try.ntmps3
  go_wp2_with fail
  refine (HR.out _).mono ?_
  rintro en w0 ⟨rfl, hb0⟩
  go_wp2_with fail
  refine (g5alive_any _).mono ?_
  rintro en w1 ⟨rfl, hb1⟩
  have hB := belows_then hb0 hb0.size hb1
  clear hb0 hb1
  go_wp2_with fail
  go_ret
  exact ⟨rfl, hB⟩

set_option maxHeartbeats 2000000 in
theorem ways_late (e p f t : Int) (w : World) (h1 : 1 ≤ e) (h2 : e ≤ 9) (hm : monthOk p = true) (h : f < 0 ∨ 0 ≤ f ∧ (2 < f ∨ f ≤ 2 ∧ (t < 0 ∨ 0 ≤ t ∧ 2 < t))) :
    Calls Try.prog 3 #[.int .i64 e, .int .i64 p, .int .i64 f, .int .i64 t] w fun en w' => en = .returned (.bool true) ∧ Below w.heap.size w w' := by
  have HM := Lib.hid hm
  clear hm
  rcases h with h | ⟨h3, h | ⟨h4, h | ⟨h5, h⟩⟩⟩
  all_goals
    go_enter Try.func3, Try.ntmps3
    go_wp2_with fail
    refine (ref_valid_true p _ HM.out).mono ?_
    rintro en w0 ⟨rfl, hb0⟩
    go_wp2_with fail
    refine (g5alive_any _).mono ?_
    rintro en w1 ⟨rfl, hb1⟩
    have hB := belows_then hb0 hb0.size hb1
    clear hb0 hb1
    go_wp2_with fail
    go_ret
    exact ⟨rfl, hB⟩

theorem ways_any (e p f t : Int) (w : World) (he : I64 e) (hp : I64 p) :
    Calls Try.prog 3 #[.int .i64 e, .int .i64 p, .int .i64 f, .int .i64 t] w fun en w' => en = .returned (.bool true) ∧ Below w.heap.size w w' := by
  by_cases h1 : 1 ≤ e
  · by_cases h2 : e ≤ 9
    · cases hm : monthOk p
      · exact ways_month e p f t w h1 h2 hm
      · by_cases h3 : 0 ≤ f
        · by_cases h4 : f ≤ 2
          · by_cases h5 : 0 ≤ t
            · by_cases h6 : t ≤ 2
              · have hf : f = 0 ∨ f = 1 ∨ f = 2 := by omega
                have ht : t = 0 ∨ t = 1 ∨ t = 2 := by omega
                rcases hf with rfl | rfl | rfl <;> rcases ht with rfl | rfl | rfl
                · exact ways_00 e p w he hp h1 h2 hm
                · exact ways_01 e p w he hp h1 h2 hm
                · exact ways_02 e p w he hp h1 h2 hm
                · exact ways_10 e p w he hp h1 h2 hm
                · exact ways_11 e p w he hp h1 h2 hm
                · exact ways_12 e p w he hp h1 h2 hm
                · exact ways_20 e p w he hp h1 h2 hm
                · exact ways_21 e p w he hp h1 h2 hm
                · exact ways_22 e p w he hp h1 h2 hm
              · exact ways_late e p f t w h1 h2 hm (.inr ⟨h3, .inr ⟨h4, .inr ⟨h5, by omega⟩⟩⟩)
            · exact ways_late e p f t w h1 h2 hm (.inr ⟨h3, .inr ⟨h4, .inl (by omega)⟩⟩)
          · exact ways_late e p f t w h1 h2 hm (.inr ⟨h3, .inl (by omega)⟩)
        · exact ways_late e p f t w h1 h2 hm (.inl (by omega))
    · exact ways_early e p f t w (.inr ⟨h1, by omega⟩)
  · exact ways_early e p f t w (.inl (by omega))
end Go.Proofs.Ythcomffnjmliaaa
