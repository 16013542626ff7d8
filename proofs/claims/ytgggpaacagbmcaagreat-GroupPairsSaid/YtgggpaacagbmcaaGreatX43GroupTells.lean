/- group: Make without a chart, without a book. -/
import Derived.Test.YtgggpaacagbmcaaGreatX38GroupTells
import Derived.Test.YtgggpaacagbmcaaGreatX39GroupTells
import Derived.Test.YtgggpaacagbmcaaGreatX23GroupTells
import Derived.Test.YtgggpaacagbmcaaGreatX17GroupTells
import Derived.Test.YtgggpaacagbmcaaGreatX13GroupTells
set_option linter.unusedVariables false
set_option linter.unusedSimpArgs false
namespace Go.Proofs.YtgggpaacagbmcaaGreat
open Go.RowKit Go.Maps Go.Deep

set_option maxHeartbeats 4000000 in
set_option maxRecDepth 100000 in
theorem grMake_nilc (w : World) (b : Value) (p : Int) (m : Value) :
    Calls Tryz.prog 12 #[.pointer none, b, .int .i64 p, m] w (GrpPost w (grp0, 1)) := by
  have hzb := blk_new w (.cells #[.slice none 0 0, .int .i64 0, .int .i64 0, .int .i64 0, .int .i64 0, .int .i64 0, .int .i64 0] 51)
  have hB0 : Below w.heap.size w (w.alloc (.cells #[.slice none 0 0, .int .i64 0, .int .i64 0, .int .i64 0, .int .i64 0, .int .i64 0, .int .i64 0] 51)) := (Below.refl w.heap.size w).alloc (Nat.le_refl _) _
  have HZ0 := Lib.hid hzb
  have HB0 := Lib.hid hB0
  obtain ⟨RT, hRT⟩ : ∃ t, ((grp0, 1) : GrpR × Int) = t := ⟨_, rfl⟩
  rw [hRT]
  have HTR := Lib.hid hRT.symm
  clear hzb hB0 hRT
  go_enter Tryz.func12, Tryz.ntmps12
  go_wp2_with fail
  refine bodyPost_ret (v := .tuple #[.agg #[.slice none 0 0, .int .i64 0, .int .i64 0, .int .i64 0, .int .i64 0, .int .i64 0, .int .i64 0], .int .i64 1]) (results_row_tmp (fn := Tryz.f12) (p := 8) (ty := 51) rfl _ _ w.heap.size 51 _ (0, 0) _ rfl HZ0.out Tryz.underlying51 rfl (by kernel_rfl)) rfl ?_
  rw [HTR.out]
  exact ⟨_, rfl, OwnL.nil _ _, HB0.out⟩

set_option maxHeartbeats 4000000 in
set_option maxRecDepth 100000 in
theorem grMake_nilb (w : World) (c : Nat) (p : Int) (m : Value) :
    Calls Tryz.prog 12 #[.pointer (some ⟨c, 0, none⟩), .pointer none, .int .i64 p, m] w (GrpPost w (grp0, 1)) := by
  have hzb := blk_new w (.cells #[.slice none 0 0, .int .i64 0, .int .i64 0, .int .i64 0, .int .i64 0, .int .i64 0, .int .i64 0] 51)
  have hB0 : Below w.heap.size w (w.alloc (.cells #[.slice none 0 0, .int .i64 0, .int .i64 0, .int .i64 0, .int .i64 0, .int .i64 0, .int .i64 0] 51)) := (Below.refl w.heap.size w).alloc (Nat.le_refl _) _
  have HZ0 := Lib.hid hzb
  have HB0 := Lib.hid hB0
  obtain ⟨RT, hRT⟩ : ∃ t, ((grp0, 1) : GrpR × Int) = t := ⟨_, rfl⟩
  rw [hRT]
  have HTR := Lib.hid hRT.symm
  clear hzb hB0 hRT
  go_enter Tryz.func12, Tryz.ntmps12
  go_wp2_with fail
  refine bodyPost_ret (v := .tuple #[.agg #[.slice none 0 0, .int .i64 0, .int .i64 0, .int .i64 0, .int .i64 0, .int .i64 0, .int .i64 0], .int .i64 1]) (results_row_tmp (fn := Tryz.f12) (p := 8) (ty := 51) rfl _ _ w.heap.size 51 _ (0, 0) _ rfl HZ0.out Tryz.underlying51 rfl (by kernel_rfl)) rfl ?_
  rw [HTR.out]
  exact ⟨_, rfl, OwnL.nil _ _, HB0.out⟩
end Go.Proofs.YtgggpaacagbmcaaGreat


/- The document's group: may its members be. -/
set_option linter.unusedVariables false
set_option linter.unusedSimpArgs false
namespace Go.Proofs.YtgggpaacagbmcaaGreat
open Go.RowKit Go.Maps Go.Deep

theorem gck_ge : ∀ (ms : List Mb) (last : Int), gck last ms = true → last ≤ lastE last ms
  | [], _, _ => Int.le_refl _
  | m :: r, last, h => by
    have h' : okM last m = true ∧ gck m.en r = true := by simpa [gck] using h
    have h1 : last < m.en := by
      have := h'.1
      unfold okM at this
      simp at this
      exact this.1
    exact Int.le_trans (Int.le_of_lt h1) (gck_ge r m.en h'.2)
theorem mbB_split (m : Mb) : mbB m = (decide (1 ≤ m.cl ∧ m.cl ≤ 1000000000) && (decide (1 ≤ m.av ∧ m.av ≤ 1000000000) && decide (1 ≤ m.ol ∧ m.ol ≤ 1000000000))) := by
  unfold mbB rateB
  by_cases h1 : 1 ≤ m.cl <;> by_cases h2 : m.cl ≤ 1000000000 <;> by_cases h3 : 1 ≤ m.av <;> by_cases h4 : m.av ≤ 1000000000 <;> by_cases h5 : 1 ≤ m.ol <;> by_cases h6 : m.ol ≤ 1000000000 <;> simp [h1, h2, h3, h4, h5, h6]
set_option maxHeartbeats 8000000 in
set_option maxRecDepth 100000 in
theorem r10Check_any (l : List Mb) (a : Option Addr) (cap : Nat) (w : World) {F : Nat → Prop} (hs : Sl tRm w F a l) (hl : l.length ≤ maxLen) :
    Calls Tryz.prog 10 #[.slice a l.length cap] w fun e w' => e = .returned (.bool (grpB l)) ∧ Below w.heap.size w w' := by
  have HS := Lib.hid hs
  have hl' : l.length ≤ 9223372036854775807 := by unfold maxLen at hl; omega
  clear hs hl
  generalize hE : grpB l = er
  have HE := Lib.hid hE
  clear hE
  rcases (show l.length < 1 ∨ 1 ≤ l.length ∧ (9 < l.length ∨ l.length ≤ 9) by omega) with h | ⟨h, h2 | h2⟩
  · have HR : Hid (er = false) := Lib.hid (by rw [← HE.out]; unfold grpB; rw [show decide (1 ≤ l.length) = false by simpa using h]; rfl)
    go_enter Tryz.func10, Tryz.ntmps10
    go_wp2_with fail
    go_ret
    rw [HR.out]
    exact ⟨rfl, Below.refl _ _⟩
  · have HR : Hid (er = false) := Lib.hid (by rw [← HE.out]; unfold grpB; rw [show decide (l.length ≤ 9) = false by simpa using h2]; simp)
    go_enter Tryz.func10, Tryz.ntmps10
    go_wp2_with fail
    go_ret
    rw [HR.out]
    exact ⟨rfl, Below.refl _ _⟩
  · have HG : Hid (er = gck 0 l) := Lib.hid (by rw [← HE.out]; unfold grpB; rw [show decide (1 ≤ l.length) = true by simpa using h, show decide (l.length ≤ 9) = true by simpa using h2]; rfl)
    go_enter Tryz.func10, Tryz.ntmps10
    go_wp2_with fail
    go_loopw [3] (fun vi wr => ∃ n : Nat, n ≤ l.length ∧ vi = .int .i64 n ∧ Hid (gck 0 (l.take n) = true) ∧ Below w.heap.size w wr) (fun vi _ => l.length - (intOf vi).toNat)
    case atStart => exact ⟨0, Nat.zero_le _, rfl, Lib.hid rfl, Below.refl _ _⟩
    case round =>
      obtain ⟨n, hn, rfl, hok, hb⟩ := hrel
      have HB := Lib.hid hb
      clear hb
      by_cases hlt : n < l.length
      · have HKS := Lib.hid (Sl.keep (fun k hk _ => HB.out.block k hk) HS.out)
        obtain ⟨ad, rfl, _, hadl, hc0, hc1, hc2, hc3, hc4, _⟩ := rm_at HKS.out n hlt
        have HSU := Lib.hid (gck_succ l n hlt)
        have HNO := Lib.hid (gck_no l n hlt)
        have HGE := Lib.hid (gck_ge (l.take n) 0 hok.out)
        have HPR : Hid (∀ k, n = k + 1 → wr.cell? (ad.add (k * 5)) = some (.int .i64 (lastE 0 (l.take n)))) := Lib.hid (fun k hk => by
          obtain ⟨ad', e', _, _, c0, _⟩ := rm_at HKS.out k (by omega)
          cases e'
          have e2 : lastE 0 (l.take n) = (l[k]'(by omega)).en := by subst hk; exact lastE_succ l k (by omega)
          rw [c0, e2])
        have HZL : Hid (n = 0 → lastE 0 (l.take n) = 0) := Lib.hid (fun h => by subst h; rfl)
        generalize l[n] = m at *
        generalize lastE 0 (l.take n) = la at *
        obtain ⟨en, sh, cl, av, ol⟩ := m
        simp only at hc0 hc1 hc2 hc3 hc4
        have HZ := Lib.hid (blk_new wr (.cells #[.int .i64 en, .int .i64 sh, .int .i64 cl, .int .i64 av, .int .i64 ol] 90))
        have HW := Lib.hid (HB.out.alloc HB.out.size (.cells #[.int .i64 en, .int .i64 sh, .int .i64 cl, .int .i64 av, .int .i64 ol] 90))
        have hge := HGE.out
        rcases Nat.eq_zero_or_pos n with hn0 | hn0
        · have hla := HZL.out hn0
          have g0 : decide (0 < n) = false := by simp; omega
          subst hla
          clear HPR HZL HGE hge hn0
          rcases (show en < 1 ∨ 1 ≤ en ∧ (9 < en ∨ en ≤ 9 ∧ (en ≤ 0 ∨ 0 < en ∧ (sh < 0 ∨ 0 ≤ sh ∧ (10000 < sh ∨ sh ≤ 10000)))) by omega) with h1 | ⟨h1, h3 | ⟨h3, h4 | ⟨h4, h5 | ⟨h5, h6 | h6⟩⟩⟩⟩
          · skip
            have g1 : decide (en < 1) = true := by simp; omega
            have HR : Hid (er = false) := Lib.hid (by rw [HG.out]; exact HNO.out (by unfold okM; simp; omega))
            go_wp2_with fail
            go_quiet (fail)
            go_wp2_with fail
            go_ret
            rw [HR.out]
            exact ⟨rfl, below_drewN HW.out _⟩
          · skip
            have g1 : decide (en < 1) = false := by simp; omega
            have g3 : decide (9 < en) = true := by simp; omega
            have HR : Hid (er = false) := Lib.hid (by rw [HG.out]; exact HNO.out (by unfold okM; simp; omega))
            go_wp2_with fail
            go_quiet (fail)
            go_wp2_with fail
            go_ret
            rw [HR.out]
            exact ⟨rfl, below_drewN HW.out _⟩
          · skip
            first | (exfalso; omega) | skip
            all_goals
              have g1 : decide (en < 1) = false := by simp; omega
              have g3 : decide (9 < en) = false := by simp; omega
              have g4 : decide (en ≤ 0) = true := by simp; omega
              have HR : Hid (er = false) := Lib.hid (by rw [HG.out]; exact HNO.out (by unfold okM; simp; omega))
              go_wp2_with fail
              go_quiet (fail)
              go_wp2_with fail
              go_ret
              rw [HR.out]
              exact ⟨rfl, below_drewN HW.out _⟩
          · skip
            have g1 : decide (en < 1) = false := by simp; omega
            have g3 : decide (9 < en) = false := by simp; omega
            have g4 : decide (en ≤ 0) = false := by simp; omega
            have g5 : decide (sh < 0) = true := by simp; omega
            have HR : Hid (er = false) := Lib.hid (by rw [HG.out]; exact HNO.out (by unfold okM; simp; omega))
            go_wp2_with fail
            go_quiet (fail)
            go_wp2_with fail
            go_ret
            rw [HR.out]
            exact ⟨rfl, below_drewN HW.out _⟩
          · skip
            have g1 : decide (en < 1) = false := by simp; omega
            have g3 : decide (9 < en) = false := by simp; omega
            have g4 : decide (en ≤ 0) = false := by simp; omega
            have g5 : decide (sh < 0) = false := by simp; omega
            have g6 : decide (10000 < sh) = true := by simp; omega
            have HR : Hid (er = false) := Lib.hid (by rw [HG.out]; exact HNO.out (by unfold okM; simp; omega))
            go_wp2_with fail
            go_quiet (fail)
            go_wp2_with fail
            go_ret
            rw [HR.out]
            exact ⟨rfl, below_drewN HW.out _⟩
          · skip
            have g1 : decide (en < 1) = false := by simp; omega
            have g3 : decide (9 < en) = false := by simp; omega
            have g4 : decide (en ≤ 0) = false := by simp; omega
            have g5 : decide (sh < 0) = false := by simp; omega
            have g6 : decide (10000 < sh) = false := by simp; omega
            go_wp2_with fail
            go_quiet (fail)
            refine abs_thenT (S := fun wz => wz.heap[wr.heap.size]? = some (.cells #[.int .i64 en, .int .i64 sh, .int .i64 cl, .int .i64 av, .int .i64 ol] 90 (0, 0)) ∧ Below w.heap.size w wz) ?_ ⟨blk_drew HZ.out _, below_drewN HW.out _⟩
            rintro wz ⟨hz, hbz⟩
            have HBZ := Lib.hid hbz
            have hcz := blk_cells hz
            have hlz := blk_lt hz
            have HMB := Lib.hid (mbB_split ⟨en, sh, cl, av, ol⟩)
            clear hz hbz g1 g3 g4 g5 g6
            go_wp2_with fail
            refine wp_loop_rounds 4 ?_
            rcases (show cl < 1 ∨ 1 ≤ cl ∧ (1000000000 < cl ∨ cl ≤ 1000000000 ∧ (av < 1 ∨ 1 ≤ av ∧ (1000000000 < av ∨ av ≤ 1000000000 ∧ (ol < 1 ∨ 1 ≤ ol ∧ (1000000000 < ol ∨ ol ≤ 1000000000))))) by omega) with k1 | ⟨k1, k2 | ⟨k2, k3 | ⟨k3, k4 | ⟨k4, k5 | ⟨k5, k6 | k6⟩⟩⟩⟩⟩
            · skip
              have HR : Hid (er = false) := Lib.hid (by rw [HG.out]; exact HNO.out (by unfold okM; rw [mbB_split]; simp; omega))
              rw [rounds_succ]
              go_wp2_with fail
              go_ret
              rw [HR.out]
              exact ⟨rfl, HBZ.out⟩
            · skip
              have HR : Hid (er = false) := Lib.hid (by rw [HG.out]; exact HNO.out (by unfold okM; rw [mbB_split]; simp; omega))
              rw [rounds_succ]
              go_wp2_with fail
              go_ret
              rw [HR.out]
              exact ⟨rfl, HBZ.out⟩
            · skip
              have HR : Hid (er = false) := Lib.hid (by rw [HG.out]; exact HNO.out (by unfold okM; rw [mbB_split]; simp; omega))
              rw [rounds_succ]
              go_wp2_with fail
              rw [rounds_succ]
              go_wp2_with fail
              go_ret
              rw [HR.out]
              exact ⟨rfl, HBZ.out⟩
            · skip
              have HR : Hid (er = false) := Lib.hid (by rw [HG.out]; exact HNO.out (by unfold okM; rw [mbB_split]; simp; omega))
              rw [rounds_succ]
              go_wp2_with fail
              rw [rounds_succ]
              go_wp2_with fail
              go_ret
              rw [HR.out]
              exact ⟨rfl, HBZ.out⟩
            · skip
              have HR : Hid (er = false) := Lib.hid (by rw [HG.out]; exact HNO.out (by unfold okM; rw [mbB_split]; simp; omega))
              rw [rounds_succ]
              go_wp2_with fail
              rw [rounds_succ]
              go_wp2_with fail
              rw [rounds_succ]
              go_wp2_with fail
              go_ret
              rw [HR.out]
              exact ⟨rfl, HBZ.out⟩
            · skip
              have HR : Hid (er = false) := Lib.hid (by rw [HG.out]; exact HNO.out (by unfold okM; rw [mbB_split]; simp; omega))
              rw [rounds_succ]
              go_wp2_with fail
              rw [rounds_succ]
              go_wp2_with fail
              rw [rounds_succ]
              go_wp2_with fail
              go_ret
              rw [HR.out]
              exact ⟨rfl, HBZ.out⟩
            · skip
              have HN : Hid (gck 0 (l.take (n + 1)) = true) := Lib.hid (by rw [HSU.out, hok.out]; unfold okM; rw [mbB_split]; simp; omega)
              rw [rounds_succ]
              go_wp2_with fail
              rw [rounds_succ]
              go_wp2_with fail
              rw [rounds_succ]
              go_wp2_with fail
              rw [rounds_succ]
              go_wp2_with fail
              go_roundw
              case rel => exact ⟨n + 1, by omega, by go_num, HN, HBZ.out⟩
              case measure => simp [intOf]; omega
        · obtain ⟨k, hk⟩ : ∃ k, n = k + 1 := ⟨n - 1, by omega⟩
          have hcp : (wr.alloc (.cells #[.int .i64 en, .int .i64 sh, .int .i64 cl, .int .i64 av, .int .i64 ol] 90)).cell? (ad.add (k * 5)) = some (.int .i64 la) := (World.cell?_of_block (w := wr) (by rw [add_block]; exact Below.heap_alloc wr _ _ hadl)).trans (HPR.out k hk)
          have g0 : decide (0 < n) = true := by simp; omega
          have hnk : ((n : Int) - 1) = (k : Int) := by omega
          have hkl : k < l.length := by omega
          have hwk : IntKind.i64.wrap ((k : Nat) : Int) = (k : Int) := by simp [IntKind.wrap, IntKind.min, IntKind.max, IntKind.bits, IntKind.signed]; omega
          clear HPR HZL HGE hk
          rcases (show en < 1 ∨ 1 ≤ en ∧ (9 < en ∨ en ≤ 9 ∧ (en ≤ la ∨ la < en ∧ (sh < 0 ∨ 0 ≤ sh ∧ (10000 < sh ∨ sh ≤ 10000)))) by omega) with h1 | ⟨h1, h3 | ⟨h3, h4 | ⟨h4, h5 | ⟨h5, h6 | h6⟩⟩⟩⟩
          · skip
            have g1 : decide (en < 1) = true := by simp; omega
            have HR : Hid (er = false) := Lib.hid (by rw [HG.out]; exact HNO.out (by unfold okM; simp; omega))
            go_wp2_with fail
            go_quiet (fail)
            go_wp2_with fail
            go_ret
            rw [HR.out]
            exact ⟨rfl, below_drewN HW.out _⟩
          · skip
            have g1 : decide (en < 1) = false := by simp; omega
            have g3 : decide (9 < en) = true := by simp; omega
            have HR : Hid (er = false) := Lib.hid (by rw [HG.out]; exact HNO.out (by unfold okM; simp; omega))
            go_wp2_with fail
            go_quiet (fail)
            go_wp2_with fail
            go_ret
            rw [HR.out]
            exact ⟨rfl, below_drewN HW.out _⟩
          · skip
            first | (exfalso; omega) | skip
            all_goals
              have g1 : decide (en < 1) = false := by simp; omega
              have g3 : decide (9 < en) = false := by simp; omega
              have g4 : decide (en ≤ la) = true := by simp; omega
              have HR : Hid (er = false) := Lib.hid (by rw [HG.out]; exact HNO.out (by unfold okM; simp; omega))
              go_wp2_with fail
              go_quiet (fail)
              go_wp2_with fail
              go_ret
              rw [HR.out]
              exact ⟨rfl, below_drewN HW.out _⟩
          · skip
            have g1 : decide (en < 1) = false := by simp; omega
            have g3 : decide (9 < en) = false := by simp; omega
            have g4 : decide (en ≤ la) = false := by simp; omega
            have g5 : decide (sh < 0) = true := by simp; omega
            have HR : Hid (er = false) := Lib.hid (by rw [HG.out]; exact HNO.out (by unfold okM; simp; omega))
            go_wp2_with fail
            go_quiet (fail)
            go_wp2_with fail
            go_ret
            rw [HR.out]
            exact ⟨rfl, below_drewN HW.out _⟩
          · skip
            have g1 : decide (en < 1) = false := by simp; omega
            have g3 : decide (9 < en) = false := by simp; omega
            have g4 : decide (en ≤ la) = false := by simp; omega
            have g5 : decide (sh < 0) = false := by simp; omega
            have g6 : decide (10000 < sh) = true := by simp; omega
            have HR : Hid (er = false) := Lib.hid (by rw [HG.out]; exact HNO.out (by unfold okM; simp; omega))
            go_wp2_with fail
            go_quiet (fail)
            go_wp2_with fail
            go_ret
            rw [HR.out]
            exact ⟨rfl, below_drewN HW.out _⟩
          · skip
            have g1 : decide (en < 1) = false := by simp; omega
            have g3 : decide (9 < en) = false := by simp; omega
            have g4 : decide (en ≤ la) = false := by simp; omega
            have g5 : decide (sh < 0) = false := by simp; omega
            have g6 : decide (10000 < sh) = false := by simp; omega
            go_wp2_with fail
            go_quiet (fail)
            refine abs_thenT (S := fun wz => wz.heap[wr.heap.size]? = some (.cells #[.int .i64 en, .int .i64 sh, .int .i64 cl, .int .i64 av, .int .i64 ol] 90 (0, 0)) ∧ Below w.heap.size w wz) ?_ ⟨blk_drew HZ.out _, below_drewN HW.out _⟩
            rintro wz ⟨hz, hbz⟩
            have HBZ := Lib.hid hbz
            have hcz := blk_cells hz
            have hlz := blk_lt hz
            have HMB := Lib.hid (mbB_split ⟨en, sh, cl, av, ol⟩)
            clear hz hbz g1 g3 g4 g5 g6
            go_wp2_with fail
            refine wp_loop_rounds 4 ?_
            rcases (show cl < 1 ∨ 1 ≤ cl ∧ (1000000000 < cl ∨ cl ≤ 1000000000 ∧ (av < 1 ∨ 1 ≤ av ∧ (1000000000 < av ∨ av ≤ 1000000000 ∧ (ol < 1 ∨ 1 ≤ ol ∧ (1000000000 < ol ∨ ol ≤ 1000000000))))) by omega) with k1 | ⟨k1, k2 | ⟨k2, k3 | ⟨k3, k4 | ⟨k4, k5 | ⟨k5, k6 | k6⟩⟩⟩⟩⟩
            · skip
              have HR : Hid (er = false) := Lib.hid (by rw [HG.out]; exact HNO.out (by unfold okM; rw [mbB_split]; simp; omega))
              rw [rounds_succ]
              go_wp2_with fail
              go_ret
              rw [HR.out]
              exact ⟨rfl, HBZ.out⟩
            · skip
              have HR : Hid (er = false) := Lib.hid (by rw [HG.out]; exact HNO.out (by unfold okM; rw [mbB_split]; simp; omega))
              rw [rounds_succ]
              go_wp2_with fail
              go_ret
              rw [HR.out]
              exact ⟨rfl, HBZ.out⟩
            · skip
              have HR : Hid (er = false) := Lib.hid (by rw [HG.out]; exact HNO.out (by unfold okM; rw [mbB_split]; simp; omega))
              rw [rounds_succ]
              go_wp2_with fail
              rw [rounds_succ]
              go_wp2_with fail
              go_ret
              rw [HR.out]
              exact ⟨rfl, HBZ.out⟩
            · skip
              have HR : Hid (er = false) := Lib.hid (by rw [HG.out]; exact HNO.out (by unfold okM; rw [mbB_split]; simp; omega))
              rw [rounds_succ]
              go_wp2_with fail
              rw [rounds_succ]
              go_wp2_with fail
              go_ret
              rw [HR.out]
              exact ⟨rfl, HBZ.out⟩
            · skip
              have HR : Hid (er = false) := Lib.hid (by rw [HG.out]; exact HNO.out (by unfold okM; rw [mbB_split]; simp; omega))
              rw [rounds_succ]
              go_wp2_with fail
              rw [rounds_succ]
              go_wp2_with fail
              rw [rounds_succ]
              go_wp2_with fail
              go_ret
              rw [HR.out]
              exact ⟨rfl, HBZ.out⟩
            · skip
              have HR : Hid (er = false) := Lib.hid (by rw [HG.out]; exact HNO.out (by unfold okM; rw [mbB_split]; simp; omega))
              rw [rounds_succ]
              go_wp2_with fail
              rw [rounds_succ]
              go_wp2_with fail
              rw [rounds_succ]
              go_wp2_with fail
              go_ret
              rw [HR.out]
              exact ⟨rfl, HBZ.out⟩
            · skip
              have HN : Hid (gck 0 (l.take (n + 1)) = true) := Lib.hid (by rw [HSU.out, hok.out]; unfold okM; rw [mbB_split]; simp; omega)
              rw [rounds_succ]
              go_wp2_with fail
              rw [rounds_succ]
              go_wp2_with fail
              rw [rounds_succ]
              go_wp2_with fail
              rw [rounds_succ]
              go_wp2_with fail
              go_roundw
              case rel => exact ⟨n + 1, by omega, by go_num, HN, HBZ.out⟩
              case measure => simp [intOf]; omega
      · have HL : Hid (l.take n = l) := Lib.hid (take_all hn hlt)
        have HR : Hid (er = true) := Lib.hid (by rw [HG.out]; have := hok.out; rw [HL.out] at this; exact this)
        go_wp2_with fail
        go_ret
        rw [HR.out]
        exact ⟨rfl, HB.out⟩
end Go.Proofs.YtgggpaacagbmcaaGreat


/- Charts: put, New. -/
set_option linter.unusedVariables false
set_option linter.unusedSimpArgs false
namespace Go.Proofs.YtgggpaacagbmcaaGreat
open Go.RowKit Go.Maps Go.Deep

theorem known_any (k : Int) (w : World) {b : Bool} (h : (decide (1 ≤ k) && decide (k ≤ 5)) = b) : Calls Tryz.prog 154 #[.int .i64 k] w fun e w' => e = .returned (.bool b) ∧ w' = w := by
  have hcs : (b = true ∧ 1 ≤ k ∧ k ≤ 5) ∨ (b = false ∧ (k < 1 ∨ 1 ≤ k ∧ 5 < k)) := by
    cases b
    · right; simp at h; exact ⟨rfl, by omega⟩
    · left; simp at h; exact ⟨rfl, h⟩
  rcases hcs with ⟨rfl, h1, h2⟩ | ⟨rfl, h1 | ⟨h1, h2⟩⟩
  all_goals
    clear h
    go_enter Tryz.func154, Tryz.ntmps154
    go_wp2
    go_ret
    refine ⟨?_, rfl⟩
    first | rfl | (simp; omega)
theorem asked_any (k : Int) (w : World) {b : Bool} (h : (decide (1 ≤ k) && decide (k ≤ 5)) = b) : Calls Tryz.prog 153 #[.func (.func 154) #[] #[], .int .i64 k] w fun e w' => e = .returned (.bool b) ∧ w' = w := by
  have HC := Lib.hid (known_any k w h)
  clear h
  go_enter Tryz.func153, Tryz.ntmps153
  go_wp2_with fail
  refine HC.out.mono ?_
  rintro e w1 ⟨rfl, rfl⟩
  go_wp2_with fail
  go_ret
  exact ⟨rfl, rfl⟩

theorem Below.onlyA {B b : Nat} {w w2 w3 : World} (h : Below B w w2) (ho : OnlyB w2 w3 b) (hb : B ≤ b) (hB : B ≤ w2.heap.size) : Below B w w3 := h.grown ho.grown hB (fun k e => by cases e; exact hb)
def PutC (w : World) (B g : Nat) (l : List Ac) (e : Ending) (w' : World) : Prop :=
  e = .returned (.int .i64 0) ∧ ∃ mb', ChartAt w' g mb' l ∧ (∀ b, mb' = some b → B ≤ b) ∧ Below B w w'

theorem codes_snoc {l : List Ac} {x : Ac} (h : findA l x.code = none) : ins (codesOf l) x.code x = codesOf (l ++ [x]) := by
  rw [ins_new _ _ _ (by rw [look_codes]; exact h)]
  unfold codesOf
  rw [List.map_append]
  rfl

set_option maxHeartbeats 4000000 in
set_option maxRecDepth 100000 in
theorem put_any {w : World} {g B : Nat} {mb : Option Nat} {l : List Ac} (h : ChartAt w g mb l) (x : Ac) (hrow : rowB x = true) (hnew : findA l x.code = none) (hk1 : I64 x.code) (hk2 : I64 x.kind) (hBg : B ≤ g) (hBm : ∀ b, mb = some b → B ≤ b) :
    Calls Tryz.prog 131 #[.pointer (some ⟨g, 0, none⟩), acv x] w (PutC w B g (l ++ [x])) := by
  have HH := Lib.hid h
  have HNEW := Lib.hid hnew
  have HK1 := Lib.hid hk1
  have HINS := Lib.hid (codes_snoc hnew)
  have HBM := Lib.hid hBm
  have hgl := blk_lt h.cell
  obtain ⟨xc, xk, xr⟩ := x
  have hrow' : 1 ≤ xc ∧ xc ≤ 9999 ∧ 1 ≤ xk ∧ xk ≤ 5 := by
    unfold rowB at hrow
    simp at hrow
    omega
  obtain ⟨r1, r2, r3, r4⟩ := hrow'
  simp only at HNEW HK1 HINS
  have HB := Lib.hid ((Below.refl w.heap.size w).alloc (Nat.le_refl _) (.cells #[.int .i64 xc, .int .i64 xk, .bool xr] 79))
  have HZ := Lib.hid (blk_new w (.cells #[.int .i64 xc, .int .i64 xk, .bool xr] 79))
  clear h hnew hk1 hk2 hrow hBm
  go_enter Tryz.func131, Tryz.ntmps131
  go_wp2_with fail
  refine (asked_any xk _ (b := true) (by simp; omega)).mono ?_
  rintro e w1 ⟨rfl, rfl⟩
  go_wp2_with fail
  refine abs_world (S := fun wx => wx.heap[w.heap.size]? = some (.cells #[.int .i64 xc, .int .i64 xk, .bool xr] 79 (0, 0)) ∧ Below w.heap.size w wx) ?_ ⟨HZ.out, HB.out⟩
  rintro wx ⟨hzx, hbx⟩
  have HZX := Lib.hid hzx
  have HBX := Lib.hid hbx
  have HCX := Lib.hid (HH.out.below hbx)
  have hzc := blk_cells hzx
  have hgc := blk_cells HCX.out.cell
  have hgf := blk_frz HCX.out.cell
  have hzl := blk_lt hzx
  have hgx := blk_lt HCX.out.cell
  have hne : w.heap.size ≠ g := by omega
  have hl1 := lookA HCX.out HK1.out wx.drew (fun b _ => rfl)
  have hl2 := lookA HCX.out HK1.out (wx.drew.alloc (.cells #[.int .i64 0, .int .i64 0, .bool false] 79)) (fun b hb => Below.heap_alloc wx.drew _ b hb)
  have hl3 := lookA HCX.out HK1.out (wx.alloc (.cells #[.int .i64 0, .int .i64 0, .bool false] 79)).drew (fun b hb => Below.heap_alloc wx _ b hb)
  have hd : acD l xc = ac0 := by unfold acD; rw [HNEW.out]; rfl
  rw [HNEW.out, hd] at hl1 hl2 hl3
  simp only [Option.isSome_none] at hl1 hl2 hl3
  clear hzx hbx HB HZ hd
  go_region_law (fail)
  all_goals
    have hnil := fun W m => run_eql_map_nil (P := Tryz.prog) W 199 _ _ m Tryz.underlying199
    have hmm := @run_makeMap Tryz.prog
    have HBW := Lib.hid (HBX.out.mono (Nat.le_trans hBg (Nat.le_of_lt hgl)))
    cases mb with
    | none =>
      go_wp2_with fail
      refine abs_world (S := (fun wz => ∃ b', wz.heap[g]? = some (.cells #[.map (some b')] 201 (0, 0)) ∧ MapIs mInt acv wz b' (codesOf l) ∧ b' ≠ g ∧ B ≤ b' ∧ wz.heap[w.heap.size]? = some (.cells #[.int .i64 xc, .int .i64 xk, .bool xr] 79 (0, 0)) ∧ Below B w wz)) ?_ ⟨wx.heap.size + 1, blk_alloc (blk_alloc (blk_set HCX.out.cell 0 _) _) _, by rw [HCX.out.none rfl]; have h9 : MapIs mInt acv (((wx.setCell { block := g, off := 0 } (Value.map (some (wx.heap.size + 1)))).alloc (.cells #[.int .i64 ac0.code, .int .i64 ac0.kind, .bool ac0.ret] 79)).alloc (.map #[] 0)) (wx.heap.size + 1) (codesOf []) := (by have := MapIs.new mInt acv ((wx.setCell { block := g, off := 0 } (Value.map (some (wx.heap.size + 1)))).alloc (.cells #[.int .i64 ac0.code, .int .i64 ac0.kind, .bool ac0.ret] 79)); simpa [codesOf] using this); exact h9.keep rfl, by omega, by omega, blk_alloc (blk_alloc (blk_far HZX.out (p := ⟨g, 0, none⟩) hne _) _) _, (((HBW.out.setCell hBg _).alloc (by simp; omega) _).alloc (by simp; omega) _).drew⟩
      rintro wz ⟨b', hzg, hzm, hzb, hzB, hza, hzB2⟩
      have HZG := Lib.hid hzg
      have HZM := Lib.hid hzm
      have HZB := Lib.hid hzB2
      have HZA := Lib.hid hza
      clear hzc hgc hgf hl1 hl2 hl3
      have hzc := blk_cells hza
      have hgc := blk_cells hzg
      clear hzg hzm hza hzB2 hnil hmm
      refine still_tail 7 (by kernel_rfl) (by kernel_rfl) ?_
      simp only [List.take_succ_cons, List.take_zero, List.drop_succ_cons, List.drop_zero]
      repeat still_step
      try refine wpStill_nil ?_
      change wpList _ _ _ _ _ _
      refine wp_update (M := mInt) (ev := acv) rfl _ _ _ 199 rfl _ Tryz.underlying199 b' (codesOf l) xc ⟨xc, xk, xr⟩ rfl rfl rfl (HZM.out.keep rfl) HK1.out ?_
      intro w2 hm2 ho2
      have HF : Hid (PutC w B g (l ++ [⟨xc, xk, xr⟩]) (.returned (.int .i64 0)) w2) := Lib.hid ⟨rfl, some b', ⟨(ho2.heap (k := g) (Ne.symm hzb)).trans HZG.out, (fun e => by cases e), (fun b e => by injection e with e; subst e; rw [← HINS.out]; exact ⟨hm2, hzb⟩)⟩, (fun b e => by injection e with e; subst e; exact hzB), Below.onlyA (Below.drew HZB.out) ho2 hzB (Nat.le_trans hzB (Nat.le_of_lt HZM.out.lt))⟩
      clear hm2 ho2
      go_wp2_with fail
      go_ret
      exact HF.out
    | some b =>
      go_wp2_with fail
      refine abs_world (S := (fun wz => ∃ b', wz.heap[g]? = some (.cells #[.map (some b')] 201 (0, 0)) ∧ MapIs mInt acv wz b' (codesOf l) ∧ b' ≠ g ∧ B ≤ b' ∧ wz.heap[w.heap.size]? = some (.cells #[.int .i64 xc, .int .i64 xk, .bool xr] 79 (0, 0)) ∧ Below B w wz)) ?_ ⟨b, blk_alloc HCX.out.cell _, (HCX.out.some b rfl).1.keep (Below.heap_alloc wx _ b (HCX.out.some b rfl).1.lt), (HCX.out.some b rfl).2, HBM.out b rfl, blk_alloc HZX.out _, (HBW.out.alloc (by omega) _).drew⟩
      rintro wz ⟨b', hzg, hzm, hzb, hzB, hza, hzB2⟩
      have HZG := Lib.hid hzg
      have HZM := Lib.hid hzm
      have HZB := Lib.hid hzB2
      have HZA := Lib.hid hza
      clear hzc hgc hgf hl1 hl2 hl3
      have hzc := blk_cells hza
      have hgc := blk_cells hzg
      clear hzg hzm hza hzB2 hnil hmm
      refine still_tail 7 (by kernel_rfl) (by kernel_rfl) ?_
      simp only [List.take_succ_cons, List.take_zero, List.drop_succ_cons, List.drop_zero]
      repeat still_step
      try refine wpStill_nil ?_
      change wpList _ _ _ _ _ _
      refine wp_update (M := mInt) (ev := acv) rfl _ _ _ 199 rfl _ Tryz.underlying199 b' (codesOf l) xc ⟨xc, xk, xr⟩ rfl rfl rfl (HZM.out.keep rfl) HK1.out ?_
      intro w2 hm2 ho2
      have HF : Hid (PutC w B g (l ++ [⟨xc, xk, xr⟩]) (.returned (.int .i64 0)) w2) := Lib.hid ⟨rfl, some b', ⟨(ho2.heap (k := g) (Ne.symm hzb)).trans HZG.out, (fun e => by cases e), (fun b e => by injection e with e; subst e; rw [← HINS.out]; exact ⟨hm2, hzb⟩)⟩, (fun b e => by injection e with e; subst e; exact hzB), Below.onlyA (Below.drew HZB.out) ho2 hzB (Nat.le_trans hzB (Nat.le_of_lt HZM.out.lt))⟩
      clear hm2 ho2
      go_wp2_with fail
      go_ret
      exact HF.out
end Go.Proofs.YtgggpaacagbmcaaGreat
