/- sheet.Make where there is no chart, or no book. -/
import Derived.Test.YtfnmlpnncjhnmaaGreatX27TrialTells
import Derived.Test.YtfnmlpnncjhnmaaGreatX34TrialTells
import Derived.Test.YtfnmlpnncjhnmaaGreatX35TrialTells
import Derived.Test.YtfnmlpnncjhnmaaGreatX21TrialTells
import Derived.Deep.RegionHeld3
set_option linter.unusedVariables false
set_option linter.unusedSimpArgs false
namespace Go.Proofs.YtfnmlpnncjhnmaaGreat
open Go.RowKit Go.Maps Go.Deep

set_option maxHeartbeats 4000000 in
theorem tBalances_nil (e f t : Int) (w : World) : Calls Tryz.prog 11 #[.pointer none, tofv e f t] w fun en w' => en = .returned (.tuple #[.slice none 0 0, .int .i64 1]) ∧ Below w.heap.size w w' := by
  have HZ := Lib.hid (blk_new w (.cells #[.int .i64 e, .int .i64 f, .int .i64 t] 31))
  have HB := Lib.hid ((Below.refl w.heap.size w).alloc (Nat.le_refl _) (.cells #[.int .i64 e, .int .i64 f, .int .i64 t] 31))
  go_enter Tryz.func11, Tryz.ntmps11
  go_wp2_with fail
  go_ret2
  exact ⟨rfl, HB.out⟩

set_option maxHeartbeats 8000000 in
set_option maxRecDepth 100000 in
theorem shMake_nilc (v : Value) (e p : Int) (w : World) : Calls Tryz.prog 27 #[.pointer none, v, .int .i64 e, .int .i64 p] w fun en w' => en = .returned (.tuple #[.agg #[.slice none 0 0, .slice none 0 0, .slice none 0 0, .int .i64 0, .int .i64 0, .int .i64 0, .int .i64 0, .int .i64 0, .int .i64 0], .int .i64 1]) ∧ Below w.heap.size w w' := by
  have HZ := Lib.hid (blk_new w (.cells #[.slice none 0 0, .slice none 0 0, .slice none 0 0, .int .i64 0, .int .i64 0, .int .i64 0, .int .i64 0, .int .i64 0, .int .i64 0] 75))
  have HB := Lib.hid ((Below.refl w.heap.size w).alloc (Nat.le_refl _) (.cells #[.slice none 0 0, .slice none 0 0, .slice none 0 0, .int .i64 0, .int .i64 0, .int .i64 0, .int .i64 0, .int .i64 0, .int .i64 0] 75))
  have hcz := blk_cells HZ.out
  have hfz := blk_frz HZ.out
  have hlz := blk_lt HZ.out
  go_enter Tryz.func27, Tryz.ntmps27
  go_wp2_with fail
  refine bodyPost_ret (v := .tuple #[.agg #[.slice none 0 0, .slice none 0 0, .slice none 0 0, .int .i64 0, .int .i64 0, .int .i64 0, .int .i64 0, .int .i64 0, .int .i64 0], .int .i64 1]) (results_row_tmp (fn := Tryz.f27) (p := 8) (ty := 75) rfl _ _ w.heap.size 75 _ (0, 0) _ rfl HZ.out Tryz.underlying75 rfl (by kernel_rfl)) rfl ?_
  exact ⟨rfl, HB.out⟩

set_option maxHeartbeats 8000000 in
set_option maxRecDepth 100000 in
theorem shBal_nil {w : World} {M : Nat} {e p o1 o2 o3 o4 o5 o6 : Int} {cp vl A L E : Value} (hM : w.heap[M]? = some (.cells #[cp, .pointer none, .int .i64 e, .int .i64 p, vl, A, L, E, .int .i64 o1, .int .i64 o2, .int .i64 o3, .int .i64 o4, .int .i64 o5, .int .i64 o6] 145 (0, 0))) :
    Calls Tryz.prog 96 #[.pointer (some ⟨M, 0, none⟩)] w fun en w' => en = .returned (.int .i64 1) ∧ ∃ w1, Below w.heap.size w w1 ∧ w' = w1.setCell ⟨M, 4, none⟩ (.slice none 0 0) := by
  have HM := Lib.hid hM
  have hcc := blk_cells hM
  have hlt := blk_lt hM
  clear hM
  have hS : SM w w := Below.refl _ _
  have KS : Hid (∀ W, SM w W → (W.cell? ⟨M, 1, none⟩ = some (.pointer none) ∧ W.cell? ⟨M, 2, none⟩ = some (.int .i64 e) ∧ W.cell? ⟨M, 3, none⟩ = some (.int .i64 p))) := Lib.hid (fun W h => ⟨SM.at' HM.out h 1 rfl, SM.at' HM.out h 2 rfl, SM.at' HM.out h 3 rfl⟩)
  go_enter Tryz.func96, Tryz.ntmps96
  go_wp2_with fail
  go_region_held3 (fun w' => w'.cell? ⟨M, 1, none⟩ = some (.pointer none) ∧ w'.cell? ⟨M, 2, none⟩ = some (.int .i64 e) ∧ w'.cell? ⟨M, 3, none⟩ = some (.int .i64 p)) (first | with_reducible exact KS.out _ HB1.out | with_reducible exact KS.out _ (SM.drew hS)) ((go_at_call 11; refine (tBalances_nil e 0 p _).mono ?_; rintro en w1 ⟨rfl, hb⟩; have HB1 : Hid (SM w w1) := Lib.hid (SM.call (SM.drew hS) hb); clear hb))
  have hM1 := blk_below HM.out HB1.out
  have hc1 := blk_cells hM1
  have hf1 := blk_frz hM1
  have hl1 := blk_lt hM1
  clear hM1 hcc
  go_wp2_with fail
  go_ret
  exact ⟨rfl, w1, HB1.out, rfl⟩

set_option maxHeartbeats 8000000 in
set_option maxRecDepth 100000 in
theorem shMake_nilb (c : Nat) (e p : Int) (w : World) : Calls Tryz.prog 27 #[.pointer (some ⟨c, 0, none⟩), .pointer none, .int .i64 e, .int .i64 p] w fun en w' => en = .returned (.tuple #[.agg #[.slice none 0 0, .slice none 0 0, .slice none 0 0, .int .i64 0, .int .i64 0, .int .i64 0, .int .i64 0, .int .i64 0, .int .i64 0], .int .i64 1]) ∧ Below w.heap.size w w' := by
  have hsf : ∀ (fn : Fn) (x y : Array Value) (ad : Addr) (m : Mode) (W : World), (store ad (.func fn x y) m).run Tryz.prog W = stored Tryz.prog W ad (.func fn x y) m := fun fn x y ad m W => run_store Tryz.prog W ad (.func fn x y) m rfl
  have hB0 : Below w.heap.size w (w.alloc (.cells #[.slice none 0 0, .slice none 0 0, .slice none 0 0, .int .i64 0, .int .i64 0, .int .i64 0, .int .i64 0, .int .i64 0, .int .i64 0] 75)) := (Below.refl w.heap.size w).alloc (Nat.le_refl _) _
  have hZ0 := blk_new w (.cells #[.slice none 0 0, .slice none 0 0, .slice none 0 0, .int .i64 0, .int .i64 0, .int .i64 0, .int .i64 0, .int .i64 0, .int .i64 0] 75)
  have HB0 := Lib.hid hB0
  have HZ0 := Lib.hid hZ0
  clear hB0 hZ0
  go_enter Tryz.func27, Tryz.ntmps27
  go_wp2_with fail
  obtain ⟨M, hM⟩ : ∃ M, w.heap.size + 1 = M := ⟨_, rfl⟩
  have HGE : Hid ((w.alloc (.cells #[.slice none 0 0, .slice none 0 0, .slice none 0 0, .int .i64 0, .int .i64 0, .int .i64 0, .int .i64 0, .int .i64 0, .int .i64 0] 75)).heap.size ≤ M) := Lib.hid (by simp; omega)
  have hwM : w.heap.size < M := by omega
  rw [hM]
  refine abs_world (S := fun wx => wx.heap[M]? = some (.cells #[.pointer (some ⟨c, 0, none⟩), .pointer none, .int .i64 e, .int .i64 p, .slice none 0 0, .slice none 0 0, .slice none 0 0, .slice none 0 0, .int .i64 0, .int .i64 0, .int .i64 0, .int .i64 0, .int .i64 0, .int .i64 0] 145 (0, 0)) ∧ Below (w.alloc (.cells #[.slice none 0 0, .slice none 0 0, .slice none 0 0, .int .i64 0, .int .i64 0, .int .i64 0, .int .i64 0, .int .i64 0, .int .i64 0] 75)).heap.size (w.alloc (.cells #[.slice none 0 0, .slice none 0 0, .slice none 0 0, .int .i64 0, .int .i64 0, .int .i64 0, .int .i64 0, .int .i64 0, .int .i64 0] 75)) wx ∧ wx.heap[M + 1]? = some (.cells #[.func (.func 96) #[.pointer (some ⟨M, 0, none⟩)] #[], .func (.func 97) #[.pointer (some ⟨M, 0, none⟩)] #[], .func (.func 98) #[.pointer (some ⟨M, 0, none⟩)] #[], .func (.func 99) #[.pointer (some ⟨M, 0, none⟩)] #[], .func (.func 100) #[.pointer (some ⟨M, 0, none⟩)] #[], .func (.func 101) #[.pointer (some ⟨M, 0, none⟩)] #[], .func (.func 102) #[.pointer (some ⟨M, 0, none⟩)] #[]] 146 (0, 0))) ?_ ⟨?_, ?_, ?_⟩
  rotate_left
  · subst hM
    have := blk_new (w.alloc (.cells #[.slice none 0 0, .slice none 0 0, .slice none 0 0, .int .i64 0, .int .i64 0, .int .i64 0, .int .i64 0, .int .i64 0, .int .i64 0] 75)) (.cells #[.pointer (some ⟨c, 0, none⟩), .pointer none, .int .i64 e, .int .i64 p, .slice none 0 0, .slice none 0 0, .slice none 0 0, .slice none 0 0, .int .i64 0, .int .i64 0, .int .i64 0, .int .i64 0, .int .i64 0, .int .i64 0] 145)
    exact blk_alloc (by simpa using this) _
  · exact ((Below.refl _ _).alloc (Nat.le_refl _) _).alloc (by simp) _
  · subst hM
    have := blk_new ((w.alloc (.cells #[.slice none 0 0, .slice none 0 0, .slice none 0 0, .int .i64 0, .int .i64 0, .int .i64 0, .int .i64 0, .int .i64 0, .int .i64 0] 75)).alloc (.cells #[.pointer (some ⟨c, 0, none⟩), .pointer none, .int .i64 e, .int .i64 p, .slice none 0 0, .slice none 0 0, .slice none 0 0, .slice none 0 0, .int .i64 0, .int .i64 0, .int .i64 0, .int .i64 0, .int .i64 0, .int .i64 0] 145)) (.cells #[.func (.func 96) #[.pointer (some ⟨w.heap.size + 1, 0, none⟩)] #[], .func (.func 97) #[.pointer (some ⟨w.heap.size + 1, 0, none⟩)] #[], .func (.func 98) #[.pointer (some ⟨w.heap.size + 1, 0, none⟩)] #[], .func (.func 99) #[.pointer (some ⟨w.heap.size + 1, 0, none⟩)] #[], .func (.func 100) #[.pointer (some ⟨w.heap.size + 1, 0, none⟩)] #[], .func (.func 101) #[.pointer (some ⟨w.heap.size + 1, 0, none⟩)] #[], .func (.func 102) #[.pointer (some ⟨w.heap.size + 1, 0, none⟩)] #[]] 146)
    simpa using this
  clear hM
  rintro wx ⟨hcell, hbel, hnx⟩
  have HCE := Lib.hid hcell
  have HBE := Lib.hid hbel
  have hct := blk_cells hnx
  clear hcell hbel hnx
  refine wp_loop_rounds 8 ?_
  rw [rounds_succ]
  go_wp2_with fail
  refine (shBal_nil HCE.out).mono ?_
  rintro en w1 ⟨rfl, w2, hb, rfl⟩
  have HB2 := Lib.hid ((HBE.out.trans (hb.mono HBE.out.size)).setCell (p := ⟨M, 4, none⟩) HGE.out (.slice none 0 0))
  have hzb := blk_below HZ0.out HB2.out
  have hcz := blk_cells hzb
  have hfz := blk_frz hzb
  have hlz := blk_lt hzb
  have HZB := Lib.hid hzb
  have HBW := Lib.hid (belows_then HB0.out HB0.out.size HB2.out)
  clear hzb hb HB2
  generalize w2.setCell ⟨M, 4, none⟩ (.slice none 0 0) = w3 at *
  go_wp2_with fail
  obtain ⟨w9, hw9, h9, hs9, hk9, hb9⟩ := nine _ w.heap.size HZB.out (.slice none 0 0) (.slice none 0 0) (.slice none 0 0) (.int .i64 0) (.int .i64 0) (.int .i64 0) (.int .i64 0) (.int .i64 0) (.int .i64 0)
  rw [hw9]
  clear hw9
  refine bodyPost_ret (v := .tuple #[.agg #[.slice none 0 0, .slice none 0 0, .slice none 0 0, .int .i64 0, .int .i64 0, .int .i64 0, .int .i64 0, .int .i64 0, .int .i64 0], .int .i64 1]) (results_row_tmp (fn := Tryz.f27) (p := 8) (ty := 75) rfl _ _ w.heap.size 75 _ (0, 0) _ rfl h9 Tryz.underlying75 rfl (by kernel_rfl)) rfl ?_
  exact ⟨rfl, hb9 _ _ HBW.out (Nat.le_refl _)⟩
end Go.Proofs.YtfnmlpnncjhnmaaGreat


/- The document's balances at every entity and periods. -/
set_option linter.unusedVariables false
set_option linter.unusedSimpArgs false
namespace Go.Proofs.YtfnmlpnncjhnmaaGreat
open Go.RowKit Go.Maps Go.Deep

theorem OwnL.isSl {P : Program} {e : TypeId} {α : Type} {T : Ty P e α} {w : World} {base : Nat} {v : Value} {xs : List α} (h : OwnL T w base v xs) : ∃ a c, v = .slice a xs.length c := by
  obtain ⟨a, c, h, _⟩ := h.slice
  exact ⟨a, c, h⟩

set_option maxHeartbeats 4000000 in
theorem r10Right_any (e f t : Int) {b : Bool} (h : rightB e f t = b) (w : World) : Calls Tryz.prog 37 #[.int .i64 e, .int .i64 f, .int .i64 t] w fun en w' => en = .returned (.bool b) ∧ Below w.heap.size w w' := by
  by_cases h1 : 1 ≤ e
  · by_cases h2 : e ≤ 9
    · cases hf : monthOk f
      · obtain rfl : b = false := by rw [← h]; unfold rightB; simp [hf]
        have HF := Lib.hid hf
        clear h hf
        go_enter Tryz.func37, Tryz.ntmps37
        go_wp2_with fail
        refine (ref_valid_is f HF.out _).mono ?_
        rintro en w1 ⟨rfl, hb⟩
        have HB := Lib.hid hb
        clear hb
        go_wp2_with fail
        go_ret
        exact ⟨rfl, HB.out⟩
      · cases ht : monthOk t
        · obtain rfl : b = false := by rw [← h]; unfold rightB; simp [ht]
          have HF := Lib.hid hf
          have HT := Lib.hid ht
          clear h hf ht
          go_enter Tryz.func37, Tryz.ntmps37
          go_wp2_with fail
          refine (ref_valid_is f HF.out _).mono ?_
          rintro en w1 ⟨rfl, hb⟩
          have HB := Lib.hid hb
          clear hb
          go_wp2_with fail
          refine (ref_valid_is t HT.out _).mono ?_
          rintro en w2 ⟨rfl, hb⟩
          have HB2 := Lib.hid (belows_then HB.out HB.out.size hb)
          clear hb
          go_wp2_with fail
          go_ret
          exact ⟨rfl, HB2.out⟩
        · have hb : decide (f ≤ t) = b := by rw [← h]; unfold rightB entB; simp [h1, h2, hf, ht]
          have HF := Lib.hid hf
          have HT := Lib.hid ht
          clear h hf ht
          cases b
          · have hlt : t < f := by simpa using hb
            clear hb
            go_enter Tryz.func37, Tryz.ntmps37
            go_wp2_with fail
            refine (ref_valid_is f HF.out _).mono ?_
            rintro en w1 ⟨rfl, hb⟩
            have HB := Lib.hid hb
            clear hb
            go_wp2_with fail
            refine (ref_valid_is t HT.out _).mono ?_
            rintro en w2 ⟨rfl, hb⟩
            have HB2 := Lib.hid (belows_then HB.out HB.out.size hb)
            clear hb
            go_wp2_with fail
            go_ret
            exact ⟨by have h : decide (f ≤ t) = false := (by simp; omega); simp [h], HB2.out⟩
          · exact r10Right_is e f t h1 h2 HF.out HT.out (by simpa using hb) w
    · have h2' : 9 < e := by omega
      obtain rfl : b = false := by rw [← h]; unfold rightB entB; simp; omega
      clear h
      go_enter Tryz.func37, Tryz.ntmps37
      go_wp2_with fail
      go_ret
      exact ⟨rfl, Below.refl _ _⟩
  · have h1' : e < 1 := by omega
    obtain rfl : b = false := by rw [← h]; unfold rightB entB; simp; omega
    clear h
    go_enter Tryz.func37, Tryz.ntmps37
    go_wp2_with fail
    go_ret
    exact ⟨rfl, Below.refl _ _⟩

set_option maxHeartbeats 4000000 in
theorem r10Balances_all (J : List Jn) (a : Option Addr) (cap : Nat) (e f t : Int) (w : World) {F : Nat → Prop} (hs : Sl tJn w F a J) (hV : ValJ J) :
    Calls Tryz.prog 10 #[.slice a J.length cap, .int .i64 e, .int .i64 f, .int .i64 t] w (BalPost w (balT J e f t)) := by
  cases hr : rightB e f t
  · have HR := Lib.hid (r10Right_any e f t hr w)
    have HBT : Hid (balT J e f t = ([], 1)) := Lib.hid (by unfold balT; simp [hr])
    clear hr hs hV
    go_enter Tryz.func10, Tryz.ntmps10
    go_wp2_with fail
    refine HR.out.mono ?_
    rintro en w1 ⟨rfl, hb⟩
    have HB1 := Lib.hid hb
    clear hb HR
    go_wp2_with fail
    go_ret2
    unfold BalPost
    rw [HBT.out]
    exact ⟨_, rfl, OwnL.nil _ _, HB1.out⟩
  · rcases right_cases hr with ⟨h, _⟩ | ⟨_, h1, h2, h3, h4⟩
    · cases h
    · have h5 : monthOk f = true ∧ monthOk t = true := by simpa using h3
      exact r10Balances_any J a cap e f t w hs hV h1 h2 h5.1 h5.2 h4
end Go.Proofs.YtfnmlpnncjhnmaaGreat


/- variorumbook: marks of balances; marked. -/
set_option linter.unusedVariables false
set_option linter.unusedSimpArgs false
namespace Go.Proofs.YtfnmlpnncjhnmaaGreat
open Go.RowKit Go.Maps Go.Deep

/-- the marks of list i, from one place on -/
def marks (i f n : Nat) : List (Int × Int) := (List.range n).map (fun (k : Nat) => ((-1000 * (i : Int) - ((f : Int) + (k : Int)) - 1 : Int), (0 : Int)))
theorem marks_len (i f n : Nat) : (marks i f n).length = n := by unfold marks; rw [List.length_map, List.length_range]
theorem marks_succ (i f n : Nat) : marks i f (n + 1) = marks i f n ++ [(-1000 * (i : Int) - ((f : Int) + (n : Int)) - 1, 0)] := by
  unfold marks
  rw [List.range_succ, List.map_append]
  rfl
theorem marks_app (i n : Nat) : ∀ m, marks i 0 n ++ marks i n m = marks i 0 (n + m)
  | 0 => by simp [marks]
  | m + 1 => by
    rw [marks_succ, ← List.append_assoc, marks_app i n m, ← Nat.add_assoc, marks_succ]
    congr 4
    omega

set_option maxHeartbeats 8000000 in
set_option maxRecDepth 100000 in
theorem markBal_any (i f n : Nat) (hi : i ≤ 1000) (hf : f ≤ 200000) (hn : n ≤ 200000) (w : World) :
    Calls Tryz.prog 134 #[.int .i64 (i : Int), .int .i64 (f : Int), .int .i64 (n : Int)] w fun e w' => ∃ v, e = .returned v ∧ OwnL tBal w' w.heap.size v (marks i f n) ∧ Below w.heap.size w w' := by
  obtain ⟨i0, hi0, hz0, hz1, hz2⟩ := info_parts infoBal
  have w1 : IntKind.i64.wrap (-1000 * (i : Int)) = -1000 * (i : Int) := wrap_is (by omega) (by omega)
  have w0 : IntKind.i64.wrap ((f : Int) + (n : Int)) = (f : Int) + (n : Int) := wrap_is (by omega) (by omega)
  go_enter Tryz.func134, Tryz.ntmps134
  go_wp2_with fail
  go_loopw [7, 8] (fun vo vi wr => ∃ (m : Nat) (k : Int) (vx : Value), vx = vo ∧ m ≤ n ∧ vi = .int .i64 k ∧ k = (f : Int) + (m : Int) ∧ OwnL tBal wr w.heap.size vx (marks i f m) ∧ Below w.heap.size w wr) (fun _ vi _ => f + n - (intOf vi).toNat)
  case atStart => exact ⟨0, _, _, rfl, Nat.zero_le _, rfl, by simp, OwnL.nil _ _, Below.refl _ _⟩
  case round =>
    obtain ⟨m, k, vo, rfl, hm, rfl, hk, ho, hb⟩ := hrel
    have HO := Lib.hid ho
    have HB := Lib.hid hb
    have HK := Lib.hid hk
    clear ho hb
    by_cases hlt : m < n
    · have hlt' : k < (f : Int) + (n : Int) := by omega
      have w2 : IntKind.i64.wrap (-1000 * (i : Int) - k) = -1000 * (i : Int) - k := wrap_is (by omega) (by omega)
      have w3 : IntKind.i64.wrap (-1000 * (i : Int) - k - 1) = -1000 * (i : Int) - k - 1 := wrap_is (by omega) (by omega)
      have w4 : IntKind.i64.wrap (k + 1) = k + 1 := wrap_is (by omega) (by omega)
      have HX : Hid (I64 (-1000 * (i : Int) - k - 1)) := Lib.hid (i64_ofB (by omega) (by omega))
      have HMS : Hid (marks i f m ++ [(-1000 * (i : Int) - k - 1, 0)] = marks i f (m + 1)) := Lib.hid (by rw [marks_succ, hk])
      have HOA := Lib.hid (HO.out.alloc (.cells #[.int .i64 (-1000 * (i : Int) - k - 1), .int .i64 0] 94))
      have HBA := Lib.hid (HB.out.alloc HB.out.size (.cells #[.int .i64 (-1000 * (i : Int) - k - 1), .int .i64 0] 94))
      have HSL : Hid (Sl tBal (wr.alloc (.cells #[.int .i64 (-1000 * (i : Int) - k - 1), .int .i64 0] 94)) (fun kk => some kk ≠ vo.ownBlock ∧ kk < (wr.alloc (.cells #[.int .i64 (-1000 * (i : Int) - k - 1), .int .i64 0] 94)).heap.size) (some ⟨wr.heap.size, 0, none⟩) [(-1000 * (i : Int) - k - 1, 0)]) :=
        Lib.hid (sl_one2 tBal (x := (-1000 * (i : Int) - k - 1, 0)) rfl (blk_new wr _) ⟨fun e => by have := (HO.out.lt _ e.symm).2; omega, by simp⟩ (bal_mk (-1000 * (i : Int) - k - 1, 0) HX.out (show I64 0 by decide)))
      have hml := marks_len i f m
      have h63 : (marks i f m).length + [((-1000 * (i : Int) - k - 1, 0) : Int × Int)].length ≤ maxLen := by simp only [List.length_cons, List.length_nil]; unfold maxLen; omega
      have hby : ((marks i f m).length + [((-1000 * (i : Int) - k - 1, 0) : Int × Int)].length) * 16 ≤ 140737488355328 := by simp only [List.length_cons, List.length_nil]; omega
      clear hml hk
      go_wp2_with (at_builtin; refine wp_app (T := tBal) rfl _ _ 32 rfl i0 (.agg #[.int .i64 0, .int .i64 0]) 16 Tryz.underlying32 hi0 hz0 hz1 hz2 rfl (by decide) bal_one w.heap.size vo (marks i f m) rfl HOA.out ⟨wr.heap.size, 0, none⟩ 1 [(-1000 * (i : Int) - k - 1, 0)] rfl HSL.out h63 hby HBA.out.size ?_; intro v2 w2 hown hg hnil hat; have HB2 := Lib.hid (Below.grown HBA.out hg HBA.out.size (fun k e => (HOA.out.lt k e).1)); have HO2 := Lib.hid hown; clear hown hg hnil hat)
      go_roundw
      case rel => exact ⟨m + 1, _, _, rfl, by omega, rfl, by have := HK.out; push_cast; omega, by rw [← HMS.out]; exact HO2.out, HB2.out⟩
      case measure => have := HK.out; simp [intOf]; omega
    · obtain rfl : m = n := by omega
      have hnl : ¬ k < (f : Int) + (m : Int) := by omega
      go_wp2_with fail
      go_ret
      exact ⟨_, rfl, HO.out, HB.out⟩
end Go.Proofs.YtfnmlpnncjhnmaaGreat


/- variorumbook: markedBalances, stillBalances. -/
set_option linter.unusedVariables false
set_option linter.unusedSimpArgs false
namespace Go.Proofs.YtfnmlpnncjhnmaaGreat
open Go.RowKit Go.Maps Go.Deep

def tBalV : Ty Tryz.prog 32 Value := Ty.val Tryz.underlying32 (by kernel_rfl)
theorem balV_Free : Free tBalV := fun _ _ _ _ _ _ h => h
theorem val_at {w : World} {F : Nat → Prop} {a : Option Addr} {l : List Value} (h : Sl tBalV w F a l) (i : Nat) (hi : i < l.length) :
    ∃ ad, a = some ad ∧ ad.block < w.heap.size ∧ w.cell? (ad.add i) = some l[i] := by
  obtain ⟨ad, ces, rfl, _, hlt, hc, hr⟩ := h i l[i] (List.getElem?_eq_getElem hi)
  obtain ⟨rfl, _⟩ := hr
  have hn : tBalV.n = 1 := rfl
  rw [hn] at hc
  refine ⟨ad, rfl, hlt, ?_⟩
  have := hc 0 _ rfl
  rw [Nat.mul_one] at this
  rwa [Go.Addr.add_add, Nat.add_zero] at this

/-- the slices vs, read: what they hold -/
def Reads (w : World) (vs : List Value) (L : List (List (Int × Int))) : Prop :=
  vs.length = L.length ∧ ∀ (i : Nat) (v : Value) (l : List (Int × Int)), vs[i]? = some v → L[i]? = some l → ∃ a c, v = .slice a l.length c ∧ Sl tBal w (fun _ => True) a l
theorem Reads.keep {w w' : World} {vs : List Value} {L : List (List (Int × Int))} (h : Reads w vs L) (hb : Below w.heap.size w w') : Reads w' vs L :=
  ⟨h.1, fun i v l hv hl => by
    obtain ⟨a, c, e, hs⟩ := h.2 i v l hv hl
    exact ⟨a, c, e, hs.keep (fun k hk _ => hb.block k hk)⟩⟩
theorem Lots.reads {w : World} {base : Nat} {vs : List Value} {L : List (List (Int × Int))} (h : Lots tBal w base vs L) : Reads w vs L :=
  ⟨h.len, fun i v l hv hl => by
    obtain ⟨a, c, e, _, _, hs⟩ := (h.own i v l hv hl).slice
    exact ⟨a, c, e, hs⟩⟩

set_option maxHeartbeats 8000000 in
set_option maxRecDepth 100000 in
theorem markedBal_any {w : World} {F : Nat → Prop} {a : Option Addr} {cap : Nat} {vs : List Value} {L : List (List (Int × Int))} (hs : Sl tBalV w F a vs) (hr : Reads w vs L) (hn : vs.length ≤ 1000)
    (hL : ∀ (i : Nat) (l : List (Int × Int)), L[i]? = some l → l = marks i 0 l.length ∧ l.length ≤ 200000) :
    Calls Tryz.prog 83 #[.slice a vs.length cap] w fun e w' => e = .returned (.bool true) ∧ Below w.heap.size w w' := by
  have HS := Lib.hid hs
  have HR := Lib.hid hr
  have HL := Lib.hid hL
  clear hs hr hL
  go_enter Tryz.func83, Tryz.ntmps83
  go_wp2_with fail
  go_loopw [3] (fun vi wr => ∃ n : Nat, n ≤ vs.length ∧ vi = .int .i64 n ∧ Below w.heap.size w wr) (fun vi _ => vs.length - (intOf vi).toNat)
  case atStart => exact ⟨0, Nat.zero_le _, rfl, Below.refl _ _⟩
  case round =>
    obtain ⟨n, hnn, rfl, hb⟩ := hrel
    have HB := Lib.hid hb
    clear hb
    by_cases hlt : n < vs.length
    · have hlt2 : n < L.length := by have := HR.out.1; omega
      obtain ⟨l, hl⟩ : ∃ l, L[n]? = some l := ⟨_, List.getElem?_eq_getElem hlt2⟩
      obtain ⟨hmk, hll⟩ := HL.out n l hl
      obtain ⟨la, lc, hv, hsl⟩ := (HR.out.keep HB.out).2 n vs[n] l (List.getElem?_eq_getElem hlt) hl
      obtain ⟨ad, rfl, hadl, hc0⟩ := val_at (Sl.keep (fun k hk _ => HB.out.block k hk) HS.out) n hlt
      rw [hv] at hc0
      have HMK : Hid (Calls Tryz.prog 134 #[.int .i64 (n : Int), .int .i64 0, .int .i64 (l.length : Int)] wr.drew fun e w' => ∃ v, e = .returned v ∧ OwnL tBal w' wr.drew.heap.size v l ∧ Below wr.drew.heap.size wr.drew w') := Lib.hid (by
        have := markBal_any n 0 l.length (by omega) (by omega) hll wr.drew
        rwa [← hmk] at this)
      have hlm : l.length ≤ maxLen := by unfold maxLen; omega
      have hlm' : l.length ≤ 9223372036854775807 := by omega
      have HSB : Hid (∀ W, Below wr.heap.size wr W → ∀ (b : Option Addr) (cb : Nat), Sl tBal W (fun _ => True) b l → Calls Tryz.prog 15 #[.slice la l.length lc, .slice b l.length cb] W fun e w' => e = .returned (.bool true) ∧ Below W.heap.size W w') := Lib.hid (fun W hW b cb hsb =>
        sameBal_is l l la b lc cb W (Sl.keep (fun k hk _ => hW.block k hk) hsl) hsb hlm hlm rfl)
      have HCE : Hid (∀ W, Below wr.heap.size wr W → W.cell? (ad.add n) = some (.slice la l.length lc)) := Lib.hid (fun W hW => (hW.cell (p := ad.add n) (by rw [add_block]; exact hadl)).trans hc0)
      have HBD : Hid (Below wr.heap.size wr wr.drew) := Lib.hid (Below.drew (Below.refl _ _))
      clear hl hmk hll hv hsl hlm hadl
      go_wp2_with fail
      go_region_held3 (fun w' => w'.cell? (ad.add n) = some (.slice la l.length lc)) (first | with_reducible exact HCE.out _ HB3.out | with_reducible exact HCE.out _ HB2.out | with_reducible exact HCE.out _ HBD.out) (first | (go_at_call 134; refine HMK.out.mono ?_; rintro en w2 ⟨v2, rfl, ho, hb⟩; obtain ⟨ta, tc, rfl, _, _, hts⟩ := ho.slice; have HTS := Lib.hid hts; have HB2 : Hid (Below wr.heap.size wr w2) := Lib.hid (belows_then HBD.out HBD.out.size hb); clear ho hb hts) | (go_at_call 15; refine (HSB.out _ HB2.out ta tc HTS.out).mono ?_; rintro en w4 ⟨rfl, hb⟩; have HB3 : Hid (Below wr.heap.size wr w4) := Lib.hid (belows_then HB2.out HB2.out.size hb); clear hb))
      have HBN := Lib.hid (HB.out.trans (HB3.out.mono HB.out.size))
      go_wp2_with fail
      go_roundw
      case rel => exact ⟨n + 1, by omega, by go_num, HBN.out⟩
      case measure => simp [intOf]; omega
    · go_wp2_with fail
      go_ret
      exact ⟨rfl, HB.out⟩
end Go.Proofs.YtfnmlpnncjhnmaaGreat


/- variorumbook: stillBalances. -/
set_option linter.unusedVariables false
set_option linter.unusedSimpArgs false
namespace Go.Proofs.YtfnmlpnncjhnmaaGreat
open Go.RowKit Go.Maps Go.Deep

set_option maxHeartbeats 8000000 in
set_option maxRecDepth 100000 in
theorem stillBal_any {w : World} {b : Nat} {cs : Array Value} {F G : Nat → Prop} {a6 a7 : Option Addr} {c6 c7 : Nat} {vs us : List Value} {L : List (List (Int × Int))} (hb : w.heap[b]? = some (.cells cs 48 (0, 0)))
    (h6 : cs[6]? = some (.slice a6 vs.length c6)) (h7 : cs[7]? = some (.slice a7 us.length c7)) (hs : Sl tBalV w F a6 vs) (ht : Sl tBalV w G a7 us) (hr : Reads w vs L) (hq : Reads w us L) (hn : vs.length ≤ 1000)
    (hL : ∀ (i : Nat) (l : List (Int × Int)), L[i]? = some l → l.length ≤ maxLen) :
    Calls Tryz.prog 53 #[.pointer (some ⟨b, 0, none⟩)] w fun e w' => e = .returned (.bool true) ∧ Below w.heap.size w w' := by
  have HS := Lib.hid hs
  have HT := Lib.hid ht
  have HR := Lib.hid hr
  have HQ := Lib.hid hq
  have HL := Lib.hid hL
  have hbl := blk_lt hb
  have HC6 : Hid (∀ W, Below w.heap.size w W → W.cell? ⟨b, 6, none⟩ = some (.slice a6 vs.length c6)) := Lib.hid (fun W hW => by rw [blk_cells (blk_below hb hW)]; exact h6)
  have HC7 : Hid (∀ W, Below w.heap.size w W → W.cell? ⟨b, 7, none⟩ = some (.slice a7 us.length c7)) := Lib.hid (fun W hW => by rw [blk_cells (blk_below hb hW)]; exact h7)
  clear hs ht hr hq hL hb h6 h7
  go_enter Tryz.func53, Tryz.ntmps53
  go_wp2_with fail
  go_loopw [3] (fun vi wr => ∃ n : Nat, n ≤ vs.length ∧ vi = .int .i64 n ∧ Below w.heap.size w wr) (fun vi _ => vs.length - (intOf vi).toNat)
  case atStart => exact ⟨0, Nat.zero_le _, rfl, Below.refl _ _⟩
  case round =>
    obtain ⟨n, hnn, rfl, hb⟩ := hrel
    have HB := Lib.hid hb
    have hbl' : b < wr.heap.size := Nat.lt_of_lt_of_le hbl hb.size
    have hz6 := HC6.out wr hb
    clear hb
    by_cases hlt : n < vs.length
    · have hlt2 : n < L.length := by have := HR.out.1; omega
      have hlt3 : n < us.length := by have := HQ.out.1; omega
      obtain ⟨l, hl⟩ : ∃ l, L[n]? = some l := ⟨_, List.getElem?_eq_getElem hlt2⟩
      have hlm := HL.out n l hl
      obtain ⟨la, lc, hv, hsl⟩ := (HR.out.keep HB.out).2 n vs[n] l (List.getElem?_eq_getElem hlt) hl
      obtain ⟨ma, mc, hu, hsm⟩ := (HQ.out.keep HB.out).2 n us[n] l (List.getElem?_eq_getElem hlt3) hl
      obtain ⟨ad, rfl, hadl, hc0⟩ := val_at (Sl.keep (fun k hk _ => HB.out.block k hk) HS.out) n hlt
      obtain ⟨bd, rfl, hbdl, hd0⟩ := val_at (Sl.keep (fun k hk _ => HB.out.block k hk) HT.out) n hlt3
      rw [hv] at hc0
      rw [hu] at hd0
      have HSB : Hid (Calls Tryz.prog 15 #[.slice la l.length lc, .slice ma l.length mc] wr.drew fun e w' => e = .returned (.bool true) ∧ Below wr.drew.heap.size wr.drew w') := Lib.hid (
        sameBal_is l l la ma lc mc wr.drew (Sl.keep (w := wr) (fun k hk _ => rfl) hsl) (Sl.keep (w := wr) (fun k hk _ => rfl) hsm) hlm hlm rfl)
      have HBD : Hid (Below wr.heap.size wr wr.drew) := Lib.hid (Below.drew (Below.refl _ _))
      have HCE : Hid (∀ W, Below wr.heap.size wr W → W.cell? ⟨b, 6, none⟩ = some (.slice (some ad) vs.length c6) ∧ W.cell? ⟨b, 7, none⟩ = some (.slice (some bd) us.length c7) ∧ W.cell? (ad.add n) = some (.slice la l.length lc) ∧ W.cell? (bd.add n) = some (.slice ma l.length mc)) := Lib.hid (fun W hW =>
        ⟨HC6.out W (HB.out.trans (hW.mono HB.out.size)), HC7.out W (HB.out.trans (hW.mono HB.out.size)), (hW.cell (p := ad.add n) (by rw [add_block]; exact hadl)).trans hc0, (hW.cell (p := bd.add n) (by rw [add_block]; exact hbdl)).trans hd0⟩)
      clear hl hlm hv hsl hu hsm hadl hbdl hc0 hd0
      go_wp2_with fail
      go_region_held3 (fun w' => w'.cell? ⟨b, 6, none⟩ = some (.slice (some ad) vs.length c6) ∧ w'.cell? ⟨b, 7, none⟩ = some (.slice (some bd) us.length c7) ∧ w'.cell? (ad.add n) = some (.slice la l.length lc) ∧ w'.cell? (bd.add n) = some (.slice ma l.length mc)) (first | with_reducible exact HCE.out _ HB3.out | with_reducible exact HCE.out _ HBD.out) ((go_at_call 15; refine HSB.out.mono ?_; rintro en w4 ⟨rfl, hb⟩; have HB3 : Hid (Below wr.heap.size wr w4) := Lib.hid (belows_then HBD.out HBD.out.size hb); clear hb))
      have HBN := Lib.hid (HB.out.trans (HB3.out.mono HB.out.size))
      go_wp2_with fail
      go_roundw
      case rel => exact ⟨n + 1, by omega, by go_num, HBN.out⟩
      case measure => simp [intOf]; omega
    · go_wp2_with fail
      go_ret
      exact ⟨rfl, HB.out⟩
end Go.Proofs.YtfnmlpnncjhnmaaGreat
