/- The document's group: may its members be. -/
import Derived.Test.YtgggpaacagbmcaaGreatX39GroupInner
import Derived.Test.YtgggpaacagbmcaaGreatX45GroupInner
set_option linter.unusedVariables false
set_option linter.unusedSimpArgs false
namespace Go.Proofs.YtgggpaacagbmcaaGreat
open Go.RowKit Go.Maps Go.Deep

theorem gck_ge : ∀ (ms : List Mb) (last : Int), gck last ms = true → last ≤ lastE last ms
  | [], _, _ => Int.le_refl _
  | m :: r, last, h => by
    have h' : okM last m = true ∧ gck m.en r = true := by simpa [gck] using h
    have h1 : last < m.en := by
      have := h'.1
      unfold okM at this
      simp at this
      exact this.1
    exact Int.le_trans (Int.le_of_lt h1) (gck_ge r m.en h'.2)
theorem mbB_split (m : Mb) : mbB m = (decide (1 ≤ m.cl ∧ m.cl ≤ 1000000000) && (decide (1 ≤ m.av ∧ m.av ≤ 1000000000) && decide (1 ≤ m.ol ∧ m.ol ≤ 1000000000))) := by
  unfold mbB rateB
  by_cases h1 : 1 ≤ m.cl <;> by_cases h2 : m.cl ≤ 1000000000 <;> by_cases h3 : 1 ≤ m.av <;> by_cases h4 : m.av ≤ 1000000000 <;> by_cases h5 : 1 ≤ m.ol <;> by_cases h6 : m.ol ≤ 1000000000 <;> simp [h1, h2, h3, h4, h5, h6]
set_option maxHeartbeats 8000000 in
set_option maxRecDepth 100000 in
theorem r10Check_any (l : List Mb) (a : Option Addr) (cap : Nat) (w : World) {F : Nat → Prop} (hs : Sl tRm w F a l) (hl : l.length ≤ maxLen) :
    Calls Tryz.prog 10 #[.slice a l.length cap] w fun e w' => e = .returned (.bool (grpB l)) ∧ Below w.heap.size w w' := by
  have HS := Lib.hid hs
  have hl' : l.length ≤ 9223372036854775807 := by unfold maxLen at hl; omega
  clear hs hl
  generalize hE : grpB l = er
  have HE := Lib.hid hE
  clear hE
  rcases (show l.length < 1 ∨ 1 ≤ l.length ∧ (9 < l.length ∨ l.length ≤ 9) by omega) with h | ⟨h, h2 | h2⟩
  · have HR : Hid (er = false) := Lib.hid (by rw [← HE.out]; unfold grpB; rw [show decide (1 ≤ l.length) = false by simpa using h]; rfl)
    go_enter Tryz.func10, Tryz.ntmps10
    go_wp2_with fail
    go_ret
    rw [HR.out]
    exact ⟨rfl, Below.refl _ _⟩
  · have HR : Hid (er = false) := Lib.hid (by rw [← HE.out]; unfold grpB; rw [show decide (l.length ≤ 9) = false by simpa using h2]; simp)
    go_enter Tryz.func10, Tryz.ntmps10
    go_wp2_with fail
    go_ret
    rw [HR.out]
    exact ⟨rfl, Below.refl _ _⟩
  · have HG : Hid (er = gck 0 l) := Lib.hid (by rw [← HE.out]; unfold grpB; rw [show decide (1 ≤ l.length) = true by simpa using h, show decide (l.length ≤ 9) = true by simpa using h2]; rfl)
    go_enter Tryz.func10, Tryz.ntmps10
    go_wp2_with fail
    go_loopw [3] (fun vi wr => ∃ n : Nat, n ≤ l.length ∧ vi = .int .i64 n ∧ Hid (gck 0 (l.take n) = true) ∧ Below w.heap.size w wr) (fun vi _ => l.length - (Go.RowKit.intOf vi).toNat)
    case atStart => exact ⟨0, Nat.zero_le _, rfl, Lib.hid rfl, Below.refl _ _⟩
    case round =>
      obtain ⟨n, hn, rfl, hok, hb⟩ := hrel
      have HB := Lib.hid hb
      clear hb
      by_cases hlt : n < l.length
      · have HKS := Lib.hid (Sl.keep (fun k hk _ => HB.out.block k hk) HS.out)
        obtain ⟨ad, rfl, _, hadl, hc0, hc1, hc2, hc3, hc4, _⟩ := rm_at HKS.out n hlt
        have HSU := Lib.hid (gck_succ l n hlt)
        have HNO := Lib.hid (gck_no l n hlt)
        have HGE := Lib.hid (gck_ge (l.take n) 0 hok.out)
        have HPR : Hid (∀ k, n = k + 1 → wr.cell? (ad.add (k * 5)) = some (.int .i64 (lastE 0 (l.take n)))) := Lib.hid (fun k hk => by
          obtain ⟨ad', e', _, _, c0, _⟩ := rm_at HKS.out k (by omega)
          cases e'
          have e2 : lastE 0 (l.take n) = (l[k]'(by omega)).en := by subst hk; exact lastE_succ l k (by omega)
          rw [c0, e2])
        have HZL : Hid (n = 0 → lastE 0 (l.take n) = 0) := Lib.hid (fun h => by subst h; rfl)
        generalize l[n] = m at *
        generalize lastE 0 (l.take n) = la at *
        obtain ⟨en, sh, cl, av, ol⟩ := m
        simp only at hc0 hc1 hc2 hc3 hc4
        have HZ := Lib.hid (blk_new wr (.cells #[.int .i64 en, .int .i64 sh, .int .i64 cl, .int .i64 av, .int .i64 ol] 90))
        have HW := Lib.hid (HB.out.alloc HB.out.size (.cells #[.int .i64 en, .int .i64 sh, .int .i64 cl, .int .i64 av, .int .i64 ol] 90))
        have hge := HGE.out
        rcases Nat.eq_zero_or_pos n with hn0 | hn0
        · have hla := HZL.out hn0
          have g0 : decide (0 < n) = false := by simp; omega
          subst hla
          clear HPR HZL HGE hge hn0
          rcases (show en < 1 ∨ 1 ≤ en ∧ (9 < en ∨ en ≤ 9 ∧ (en ≤ 0 ∨ 0 < en ∧ (sh < 0 ∨ 0 ≤ sh ∧ (10000 < sh ∨ sh ≤ 10000)))) by omega) with h1 | ⟨h1, h3 | ⟨h3, h4 | ⟨h4, h5 | ⟨h5, h6 | h6⟩⟩⟩⟩
          · skip
            have g1 : decide (en < 1) = true := by simp; omega
            have HR : Hid (er = false) := Lib.hid (by rw [HG.out]; exact HNO.out (by unfold okM; simp; omega))
            go_wp2_with fail
            go_quiet (fail)
            go_wp2_with fail
            go_ret
            rw [HR.out]
            exact ⟨rfl, below_drewN HW.out _⟩
          · skip
            have g1 : decide (en < 1) = false := by simp; omega
            have g3 : decide (9 < en) = true := by simp; omega
            have HR : Hid (er = false) := Lib.hid (by rw [HG.out]; exact HNO.out (by unfold okM; simp; omega))
            go_wp2_with fail
            go_quiet (fail)
            go_wp2_with fail
            go_ret
            rw [HR.out]
            exact ⟨rfl, below_drewN HW.out _⟩
          · skip
            first | (exfalso; omega) | skip
            all_goals
              have g1 : decide (en < 1) = false := by simp; omega
              have g3 : decide (9 < en) = false := by simp; omega
              have g4 : decide (en ≤ 0) = true := by simp; omega
              have HR : Hid (er = false) := Lib.hid (by rw [HG.out]; exact HNO.out (by unfold okM; simp; omega))
              go_wp2_with fail
              go_quiet (fail)
              go_wp2_with fail
              go_ret
              rw [HR.out]
              exact ⟨rfl, below_drewN HW.out _⟩
          · skip
            have g1 : decide (en < 1) = false := by simp; omega
            have g3 : decide (9 < en) = false := by simp; omega
            have g4 : decide (en ≤ 0) = false := by simp; omega
            have g5 : decide (sh < 0) = true := by simp; omega
            have HR : Hid (er = false) := Lib.hid (by rw [HG.out]; exact HNO.out (by unfold okM; simp; omega))
            go_wp2_with fail
            go_quiet (fail)
            go_wp2_with fail
            go_ret
            rw [HR.out]
            exact ⟨rfl, below_drewN HW.out _⟩
          · skip
            have g1 : decide (en < 1) = false := by simp; omega
            have g3 : decide (9 < en) = false := by simp; omega
            have g4 : decide (en ≤ 0) = false := by simp; omega
            have g5 : decide (sh < 0) = false := by simp; omega
            have g6 : decide (10000 < sh) = true := by simp; omega
            have HR : Hid (er = false) := Lib.hid (by rw [HG.out]; exact HNO.out (by unfold okM; simp; omega))
            go_wp2_with fail
            go_quiet (fail)
            go_wp2_with fail
            go_ret
            rw [HR.out]
            exact ⟨rfl, below_drewN HW.out _⟩
          · skip
            have g1 : decide (en < 1) = false := by simp; omega
            have g3 : decide (9 < en) = false := by simp; omega
            have g4 : decide (en ≤ 0) = false := by simp; omega
            have g5 : decide (sh < 0) = false := by simp; omega
            have g6 : decide (10000 < sh) = false := by simp; omega
            go_wp2_with fail
            go_quiet (fail)
            refine abs_thenT (S := fun wz => wz.heap[wr.heap.size]? = some (.cells #[.int .i64 en, .int .i64 sh, .int .i64 cl, .int .i64 av, .int .i64 ol] 90 (0, 0)) ∧ Below w.heap.size w wz) ?_ ⟨blk_drew HZ.out _, below_drewN HW.out _⟩
            rintro wz ⟨hz, hbz⟩
            have HBZ := Lib.hid hbz
            have hcz := blk_cells hz
            have hlz := blk_lt hz
            have HMB := Lib.hid (mbB_split ⟨en, sh, cl, av, ol⟩)
            clear hz hbz g1 g3 g4 g5 g6
            go_wp2_with fail
            refine wp_loop_rounds 4 ?_
            rcases (show cl < 1 ∨ 1 ≤ cl ∧ (1000000000 < cl ∨ cl ≤ 1000000000 ∧ (av < 1 ∨ 1 ≤ av ∧ (1000000000 < av ∨ av ≤ 1000000000 ∧ (ol < 1 ∨ 1 ≤ ol ∧ (1000000000 < ol ∨ ol ≤ 1000000000))))) by omega) with k1 | ⟨k1, k2 | ⟨k2, k3 | ⟨k3, k4 | ⟨k4, k5 | ⟨k5, k6 | k6⟩⟩⟩⟩⟩
            · skip
              have HR : Hid (er = false) := Lib.hid (by rw [HG.out]; exact HNO.out (by unfold okM; rw [mbB_split]; simp; omega))
              rw [rounds_succ]
              go_wp2_with fail
              go_ret
              rw [HR.out]
              exact ⟨rfl, HBZ.out⟩
            · skip
              have HR : Hid (er = false) := Lib.hid (by rw [HG.out]; exact HNO.out (by unfold okM; rw [mbB_split]; simp; omega))
              rw [rounds_succ]
              go_wp2_with fail
              go_ret
              rw [HR.out]
              exact ⟨rfl, HBZ.out⟩
            · skip
              have HR : Hid (er = false) := Lib.hid (by rw [HG.out]; exact HNO.out (by unfold okM; rw [mbB_split]; simp; omega))
              rw [rounds_succ]
              go_wp2_with fail
              rw [rounds_succ]
              go_wp2_with fail
              go_ret
              rw [HR.out]
              exact ⟨rfl, HBZ.out⟩
            · skip
              have HR : Hid (er = false) := Lib.hid (by rw [HG.out]; exact HNO.out (by unfold okM; rw [mbB_split]; simp; omega))
              rw [rounds_succ]
              go_wp2_with fail
              rw [rounds_succ]
              go_wp2_with fail
              go_ret
              rw [HR.out]
              exact ⟨rfl, HBZ.out⟩
            · skip
              have HR : Hid (er = false) := Lib.hid (by rw [HG.out]; exact HNO.out (by unfold okM; rw [mbB_split]; simp; omega))
              rw [rounds_succ]
              go_wp2_with fail
              rw [rounds_succ]
              go_wp2_with fail
              rw [rounds_succ]
              go_wp2_with fail
              go_ret
              rw [HR.out]
              exact ⟨rfl, HBZ.out⟩
            · skip
              have HR : Hid (er = false) := Lib.hid (by rw [HG.out]; exact HNO.out (by unfold okM; rw [mbB_split]; simp; omega))
              rw [rounds_succ]
              go_wp2_with fail
              rw [rounds_succ]
              go_wp2_with fail
              rw [rounds_succ]
              go_wp2_with fail
              go_ret
              rw [HR.out]
              exact ⟨rfl, HBZ.out⟩
            · skip
              have HN : Hid (gck 0 (l.take (n + 1)) = true) := Lib.hid (by rw [HSU.out, hok.out]; unfold okM; rw [mbB_split]; simp; omega)
              rw [rounds_succ]
              go_wp2_with fail
              rw [rounds_succ]
              go_wp2_with fail
              rw [rounds_succ]
              go_wp2_with fail
              rw [rounds_succ]
              go_wp2_with fail
              go_roundw
              case rel => exact ⟨n + 1, by omega, by go_num, HN, HBZ.out⟩
              case measure => simp [Go.RowKit.intOf]; omega
        · obtain ⟨k, hk⟩ : ∃ k, n = k + 1 := ⟨n - 1, by omega⟩
          have hcp : (wr.alloc (.cells #[.int .i64 en, .int .i64 sh, .int .i64 cl, .int .i64 av, .int .i64 ol] 90)).cell? (ad.add (k * 5)) = some (.int .i64 la) := (World.cell?_of_block (w := wr) (by rw [add_block]; exact Below.heap_alloc wr _ _ hadl)).trans (HPR.out k hk)
          have g0 : decide (0 < n) = true := by simp; omega
          have hnk : ((n : Int) - 1) = (k : Int) := by omega
          have hkl : k < l.length := by omega
          have hwk : IntKind.i64.wrap ((k : Nat) : Int) = (k : Int) := by simp [IntKind.wrap, IntKind.min, IntKind.max, IntKind.bits, IntKind.signed]; omega
          clear HPR HZL HGE hk
          rcases (show en < 1 ∨ 1 ≤ en ∧ (9 < en ∨ en ≤ 9 ∧ (en ≤ la ∨ la < en ∧ (sh < 0 ∨ 0 ≤ sh ∧ (10000 < sh ∨ sh ≤ 10000)))) by omega) with h1 | ⟨h1, h3 | ⟨h3, h4 | ⟨h4, h5 | ⟨h5, h6 | h6⟩⟩⟩⟩
          · skip
            have g1 : decide (en < 1) = true := by simp; omega
            have HR : Hid (er = false) := Lib.hid (by rw [HG.out]; exact HNO.out (by unfold okM; simp; omega))
            go_wp2_with fail
            go_quiet (fail)
            go_wp2_with fail
            go_ret
            rw [HR.out]
            exact ⟨rfl, below_drewN HW.out _⟩
          · skip
            have g1 : decide (en < 1) = false := by simp; omega
            have g3 : decide (9 < en) = true := by simp; omega
            have HR : Hid (er = false) := Lib.hid (by rw [HG.out]; exact HNO.out (by unfold okM; simp; omega))
            go_wp2_with fail
            go_quiet (fail)
            go_wp2_with fail
            go_ret
            rw [HR.out]
            exact ⟨rfl, below_drewN HW.out _⟩
          · skip
            first | (exfalso; omega) | skip
            all_goals
              have g1 : decide (en < 1) = false := by simp; omega
              have g3 : decide (9 < en) = false := by simp; omega
              have g4 : decide (en ≤ la) = true := by simp; omega
              have HR : Hid (er = false) := Lib.hid (by rw [HG.out]; exact HNO.out (by unfold okM; simp; omega))
              go_wp2_with fail
              go_quiet (fail)
              go_wp2_with fail
              go_ret
              rw [HR.out]
              exact ⟨rfl, below_drewN HW.out _⟩
          · skip
            have g1 : decide (en < 1) = false := by simp; omega
            have g3 : decide (9 < en) = false := by simp; omega
            have g4 : decide (en ≤ la) = false := by simp; omega
            have g5 : decide (sh < 0) = true := by simp; omega
            have HR : Hid (er = false) := Lib.hid (by rw [HG.out]; exact HNO.out (by unfold okM; simp; omega))
            go_wp2_with fail
            go_quiet (fail)
            go_wp2_with fail
            go_ret
            rw [HR.out]
            exact ⟨rfl, below_drewN HW.out _⟩
          · skip
            have g1 : decide (en < 1) = false := by simp; omega
            have g3 : decide (9 < en) = false := by simp; omega
            have g4 : decide (en ≤ la) = false := by simp; omega
            have g5 : decide (sh < 0) = false := by simp; omega
            have g6 : decide (10000 < sh) = true := by simp; omega
            have HR : Hid (er = false) := Lib.hid (by rw [HG.out]; exact HNO.out (by unfold okM; simp; omega))
            go_wp2_with fail
            go_quiet (fail)
            go_wp2_with fail
            go_ret
            rw [HR.out]
            exact ⟨rfl, below_drewN HW.out _⟩
          · skip
            have g1 : decide (en < 1) = false := by simp; omega
            have g3 : decide (9 < en) = false := by simp; omega
            have g4 : decide (en ≤ la) = false := by simp; omega
            have g5 : decide (sh < 0) = false := by simp; omega
            have g6 : decide (10000 < sh) = false := by simp; omega
            go_wp2_with fail
            go_quiet (fail)
            refine abs_thenT (S := fun wz => wz.heap[wr.heap.size]? = some (.cells #[.int .i64 en, .int .i64 sh, .int .i64 cl, .int .i64 av, .int .i64 ol] 90 (0, 0)) ∧ Below w.heap.size w wz) ?_ ⟨blk_drew HZ.out _, below_drewN HW.out _⟩
            rintro wz ⟨hz, hbz⟩
            have HBZ := Lib.hid hbz
            have hcz := blk_cells hz
            have hlz := blk_lt hz
            have HMB := Lib.hid (mbB_split ⟨en, sh, cl, av, ol⟩)
            clear hz hbz g1 g3 g4 g5 g6
            go_wp2_with fail
            refine wp_loop_rounds 4 ?_
            rcases (show cl < 1 ∨ 1 ≤ cl ∧ (1000000000 < cl ∨ cl ≤ 1000000000 ∧ (av < 1 ∨ 1 ≤ av ∧ (1000000000 < av ∨ av ≤ 1000000000 ∧ (ol < 1 ∨ 1 ≤ ol ∧ (1000000000 < ol ∨ ol ≤ 1000000000))))) by omega) with k1 | ⟨k1, k2 | ⟨k2, k3 | ⟨k3, k4 | ⟨k4, k5 | ⟨k5, k6 | k6⟩⟩⟩⟩⟩
            · skip
              have HR : Hid (er = false) := Lib.hid (by rw [HG.out]; exact HNO.out (by unfold okM; rw [mbB_split]; simp; omega))
              rw [rounds_succ]
              go_wp2_with fail
              go_ret
              rw [HR.out]
              exact ⟨rfl, HBZ.out⟩
            · skip
              have HR : Hid (er = false) := Lib.hid (by rw [HG.out]; exact HNO.out (by unfold okM; rw [mbB_split]; simp; omega))
              rw [rounds_succ]
              go_wp2_with fail
              go_ret
              rw [HR.out]
              exact ⟨rfl, HBZ.out⟩
            · skip
              have HR : Hid (er = false) := Lib.hid (by rw [HG.out]; exact HNO.out (by unfold okM; rw [mbB_split]; simp; omega))
              rw [rounds_succ]
              go_wp2_with fail
              rw [rounds_succ]
              go_wp2_with fail
              go_ret
              rw [HR.out]
              exact ⟨rfl, HBZ.out⟩
            · skip
              have HR : Hid (er = false) := Lib.hid (by rw [HG.out]; exact HNO.out (by unfold okM; rw [mbB_split]; simp; omega))
              rw [rounds_succ]
              go_wp2_with fail
              rw [rounds_succ]
              go_wp2_with fail
              go_ret
              rw [HR.out]
              exact ⟨rfl, HBZ.out⟩
            · skip
              have HR : Hid (er = false) := Lib.hid (by rw [HG.out]; exact HNO.out (by unfold okM; rw [mbB_split]; simp; omega))
              rw [rounds_succ]
              go_wp2_with fail
              rw [rounds_succ]
              go_wp2_with fail
              rw [rounds_succ]
              go_wp2_with fail
              go_ret
              rw [HR.out]
              exact ⟨rfl, HBZ.out⟩
            · skip
              have HR : Hid (er = false) := Lib.hid (by rw [HG.out]; exact HNO.out (by unfold okM; rw [mbB_split]; simp; omega))
              rw [rounds_succ]
              go_wp2_with fail
              rw [rounds_succ]
              go_wp2_with fail
              rw [rounds_succ]
              go_wp2_with fail
              go_ret
              rw [HR.out]
              exact ⟨rfl, HBZ.out⟩
            · skip
              have HN : Hid (gck 0 (l.take (n + 1)) = true) := Lib.hid (by rw [HSU.out, hok.out]; unfold okM; rw [mbB_split]; simp; omega)
              rw [rounds_succ]
              go_wp2_with fail
              rw [rounds_succ]
              go_wp2_with fail
              rw [rounds_succ]
              go_wp2_with fail
              rw [rounds_succ]
              go_wp2_with fail
              go_roundw
              case rel => exact ⟨n + 1, by omega, by go_num, HN, HBZ.out⟩
              case measure => simp [Go.RowKit.intOf]; omega
      · have HL : Hid (l.take n = l) := Lib.hid (take_all hn hlt)
        have HR : Hid (er = true) := Lib.hid (by rw [HG.out]; have := hok.out; rw [HL.out] at this; exact this)
        go_wp2_with fail
        go_ret
        rw [HR.out]
        exact ⟨rfl, HB.out⟩
end Go.Proofs.YtgggpaacagbmcaaGreat
