/- Plain: both sides of a sheet are the same: the lines of every journal come to 0. -/
import Derived.Test.YtfnmlpnncjhnmaaGreatX31SheetTells
import Derived.Test.YtfnmlpnncjhnmaaGreatX26SheetTells
set_option linter.unusedVariables false
set_option linter.unusedSimpArgs false
namespace Go.Proofs.YtfnmlpnncjhnmaaGreat
open Go.RowKit Go.Maps Go.Deep

theorem sumQ_true : ∀ (L : List Ln), sumQ (fun _ => true) L = sumA L
  | [] => rfl
  | x :: r => by simp only [sumQ, sumA, sumQ_true r, if_true]
theorem chk_sumA {j : Jn} (h : chk j = 0) : sumA j.lines = 0 := by
  unfold chk at h
  by_cases h0 : sumA j.lines = 0
  · exact h0
  · have h1 : (sumA j.lines != 0) = true := by simpa using h0
    rw [h1] at h
    split at h
    · cases h
    · split at h
      · cases h
      · split at h
        · cases h
        · split at h <;> cases h
theorem lines_zero {J : List Jn} (h : ∀ x ∈ J, chk x = 0) (e f t : Int) : sumQ (fun _ => true) (linesOf J e f t) = 0 := by
  induction J with
  | nil => rfl
  | cons j r ih =>
    have ih := ih (fun x hx => h x (List.mem_cons_of_mem _ hx))
    unfold linesOf at ih ⊢
    rw [List.filter_cons]
    split
    · rw [List.flatMap_cons, sumQ_app, ih, sumQ_true, chk_sumA (h j (List.mem_cons_self ..))]
      rfl
    · exact ih
/-- the accounts that are none -/
def outK (r : List Ac) (c : Int) : Bool := (findA r c).isNone
theorem kind_one {r : List Ac} (hr : GoodA r) (c m : Int) : (if kB r [1] c then m else 0) + (if kB r [2] c then m else 0) + (if kB r [3] c then m else 0) + (if kB r [4] c then m else 0) + (if kB r [5] c then m else 0) + (if outK r c then m else 0) = m := by
  unfold kB pickB outK
  cases h : findA r c with
  | none => simp [h]
  | some a =>
    have h1 := hr.ok a (find_mem h)
    unfold rowB at h1
    simp at h1
    obtain ⟨_, _, h2, h3⟩ := h1
    have hk : a.kind = 1 ∨ a.kind = 2 ∨ a.kind = 3 ∨ a.kind = 4 ∨ a.kind = 5 := by omega
    rcases hk with hk | hk | hk | hk | hk <;> simp [h, hk]
theorem sumQ_all {r : List Ac} (hr : GoodA r) : ∀ (L : List Ln), sumQ (kB r [1]) L + sumQ (kB r [2]) L + sumQ (kB r [3]) L + sumQ (kB r [4]) L + sumQ (kB r [5]) L + sumQ (outK r) L = sumQ (fun _ => true) L
  | [] => rfl
  | x :: s => by
    have ih := sumQ_all hr s
    have h := kind_one hr x.acc x.amt
    simp only [sumQ, if_true]
    omega
theorem bal_zero {J : List Jn} {e f t : Int} (h : (balT J e f t).2 = 0) : (balT J e f t).1 = accR J e f t := by
  rcases balT_cases J e f t with hb | hb | ⟨_, _, hb⟩
  · rw [hb] at h; cases h
  · rw [hb] at h; cases h
  · rw [hb]
theorem ret_sum {r : List Ac} {J : List Jn} (hV : ValJ J) {e p : Int} (hp : 0 ≤ p) (h1 : (retT r J e p).2 = 0) (h2 : (curT r J e p).2 = 0) : (retT r J e p).1 + (curT r J e p).1 = -sumQ (kB r [4]) (linesOf J e 0 p) - sumQ (kB r [5]) (linesOf J e 0 p) := by
  have hj0 : 0 ≤ janOf p := by unfold janOf; omega
  have hjp : janOf p ≤ p := by unfold janOf; omega
  have hc : (curT r J e p).1 = -sumQ (kB r [4]) (linesOf J e (janOf p) p) - sumQ (kB r [5]) (linesOf J e (janOf p) p) := net_sum hV h2
  have hr : (retT r J e p).1 = -sumQ (kB r [4]) (linesOf J e 0 (janOf p - 1)) - sumQ (kB r [5]) (linesOf J e 0 (janOf p - 1)) := by
    by_cases hj : janOf p = 0
    · have : (retT r J e p).1 = 0 := by unfold retT; rw [hj]; rfl
      rw [this, hj, show (0 : Int) - 1 = -1 from rfl, lines_none]
      rfl
    · have hb : (janOf p == 0) = false := by simpa using hj
      unfold retT at h1 ⊢
      rw [hb] at h1 ⊢
      exact net_sum hV h1
  rw [hc, hr, lines_split (kB r [4]) e 0 (janOf p) p hj0 (by omega), lines_split (kB r [5]) e 0 (janOf p) p hj0 (by omega)]
  omega
/-- the five other sums as sums over lines -/
theorem sh_sums {r : List Ac} {J : List Jn} (hV : ValJ J) {e p : Int} (h : (shT r J e p).2 = 0) :
    (shT r J e p).1.1 = sumQ (kB r [1]) (linesOf J e 0 p) ∧ (shT r J e p).1.2.1 = -sumQ (kB r [2]) (linesOf J e 0 p) ∧ (shT r J e p).1.2.2.1 = -sumQ (kB r [3]) (linesOf J e 0 p) ∧ (shT r J e p).1.2.2.2.2.2 = -sumQ (outK r) (linesOf J e 0 p) := by
  obtain ⟨hE, hv⟩ := shT_ok h
  obtain ⟨g0, g1, g2, g3, g4, g5, g6⟩ := shE_ok hE
  rw [hv]
  simp only
  have hb := bal_zero g0
  refine ⟨?_, ?_, ?_, ?_⟩
  · unfold owT at g1 ⊢
    rw [addM_ok g1, hb, pickB_k, accR_sum hV e 0 p (kB r [1])]
  · unfold oeT at g2 ⊢
    rw [addM_ok g2, neg_sum, hb, pickB_k, accR_sum hV e 0 p (kB r [2])]
  · unfold heT at g3 ⊢
    rw [addM_ok g3, neg_sum, hb, pickB_k, accR_sum hV e 0 p (kB r [3])]
  · unfold otT at g6 ⊢
    rw [addM_ok g6, show othL r (balT J e 0 p).1 = ((balT J e 0 p).1.filter (outB r)).map negB from rfl, neg_sum, hb, show outB r = fun x => outK r x.1 from rfl, accR_sum hV e 0 p (outK r)]
/-- both sides of a sheet -/
theorem sh_holds {r : List Ac} (hr : GoodA r) {J : List Jn} (hV : ValJ J) {e p : Int} (h : (shT r J e p).2 = 0) :
    (shT r J e p).1.1 = (shT r J e p).1.2.1 + (shT r J e p).1.2.2.1 + (shT r J e p).1.2.2.2.1 + (shT r J e p).1.2.2.2.2.1 + (shT r J e p).1.2.2.2.2.2 := by
  obtain ⟨h1, h2, h3, h4⟩ := sh_sums hV h
  obtain ⟨hE, hv⟩ := shT_ok h
  obtain ⟨g0, _, _, _, g4, g5, _⟩ := shE_ok hE
  have hp : 0 ≤ p := by
    have hrt : rightB e 0 p = true := by
      cases h : rightB e 0 p with
      | true => rfl
      | false => unfold balT at g0; rw [h] at g0; cases g0
    exact (right_month hrt).2.1
  have h5 := ret_sum hV hp g4 g5
  have h6 : (shT r J e p).1.2.2.2.1 = (retT r J e p).1 := by rw [hv]
  have h7 : (shT r J e p).1.2.2.2.2.1 = (curT r J e p).1 := by rw [hv]
  have h8 := sumQ_all hr (linesOf J e 0 p)
  rw [lines_zero hV.ok] at h8
  omega
end Go.Proofs.YtfnmlpnncjhnmaaGreat


/- sheet.Make where there is no chart, or no book. -/
set_option linter.unusedVariables false
set_option linter.unusedSimpArgs false
namespace Go.Proofs.YtfnmlpnncjhnmaaGreat
open Go.RowKit Go.Maps Go.Deep

set_option maxHeartbeats 4000000 in
theorem tBalances_nil (e f t : Int) (w : World) : Calls Tryz.prog 11 #[.pointer none, tofv e f t] w fun en w' => en = .returned (.tuple #[.slice none 0 0, .int .i64 1]) ∧ Below w.heap.size w w' := by
  have HZ := Lib.hid (blk_new w (.cells #[.int .i64 e, .int .i64 f, .int .i64 t] 31))
  have HB := Lib.hid ((Below.refl w.heap.size w).alloc (Nat.le_refl _) (.cells #[.int .i64 e, .int .i64 f, .int .i64 t] 31))
  go_enter Tryz.func11, Tryz.ntmps11
  go_wp2_with fail
  go_ret2
  exact ⟨rfl, HB.out⟩

set_option maxHeartbeats 8000000 in
set_option maxRecDepth 100000 in
theorem shMake_nilc (v : Value) (e p : Int) (w : World) : Calls Tryz.prog 27 #[.pointer none, v, .int .i64 e, .int .i64 p] w fun en w' => en = .returned (.tuple #[.agg #[.slice none 0 0, .slice none 0 0, .slice none 0 0, .int .i64 0, .int .i64 0, .int .i64 0, .int .i64 0, .int .i64 0, .int .i64 0], .int .i64 1]) ∧ Below w.heap.size w w' := by
  have HZ := Lib.hid (blk_new w (.cells #[.slice none 0 0, .slice none 0 0, .slice none 0 0, .int .i64 0, .int .i64 0, .int .i64 0, .int .i64 0, .int .i64 0, .int .i64 0] 75))
  have HB := Lib.hid ((Below.refl w.heap.size w).alloc (Nat.le_refl _) (.cells #[.slice none 0 0, .slice none 0 0, .slice none 0 0, .int .i64 0, .int .i64 0, .int .i64 0, .int .i64 0, .int .i64 0, .int .i64 0] 75))
  have hcz := blk_cells HZ.out
  have hfz := blk_frz HZ.out
  have hlz := blk_lt HZ.out
  go_enter Tryz.func27, Tryz.ntmps27
  go_wp2_with fail
  refine bodyPost_ret (v := .tuple #[.agg #[.slice none 0 0, .slice none 0 0, .slice none 0 0, .int .i64 0, .int .i64 0, .int .i64 0, .int .i64 0, .int .i64 0, .int .i64 0], .int .i64 1]) (results_row_tmp (fn := Tryz.f27) (p := 8) (ty := 75) rfl _ _ w.heap.size 75 _ (0, 0) _ rfl HZ.out Tryz.underlying75 rfl (by kernel_rfl)) rfl ?_
  exact ⟨rfl, HB.out⟩

set_option maxHeartbeats 8000000 in
set_option maxRecDepth 100000 in
theorem shBal_nil {w : World} {M : Nat} {e p o1 o2 o3 o4 o5 o6 : Int} {cp vl A L E : Value} (hM : w.heap[M]? = some (.cells #[cp, .pointer none, .int .i64 e, .int .i64 p, vl, A, L, E, .int .i64 o1, .int .i64 o2, .int .i64 o3, .int .i64 o4, .int .i64 o5, .int .i64 o6] 145 (0, 0))) :
    Calls Tryz.prog 96 #[.pointer (some ⟨M, 0, none⟩)] w fun en w' => en = .returned (.int .i64 1) ∧ ∃ w1, Below w.heap.size w w1 ∧ w' = w1.setCell ⟨M, 4, none⟩ (.slice none 0 0) := by
  have HM := Lib.hid hM
  have hcc := blk_cells hM
  have hlt := blk_lt hM
  clear hM
  have hS : SM w w := Below.refl _ _
  have KS : Hid (∀ W, SM w W → (W.cell? ⟨M, 1, none⟩ = some (.pointer none) ∧ W.cell? ⟨M, 2, none⟩ = some (.int .i64 e) ∧ W.cell? ⟨M, 3, none⟩ = some (.int .i64 p))) := Lib.hid (fun W h => ⟨SM.at' HM.out h 1 rfl, SM.at' HM.out h 2 rfl, SM.at' HM.out h 3 rfl⟩)
  go_enter Tryz.func96, Tryz.ntmps96
  go_wp2_with fail
  go_region_held3 (fun w' => w'.cell? ⟨M, 1, none⟩ = some (.pointer none) ∧ w'.cell? ⟨M, 2, none⟩ = some (.int .i64 e) ∧ w'.cell? ⟨M, 3, none⟩ = some (.int .i64 p)) (first | with_reducible exact KS.out _ HB1.out | with_reducible exact KS.out _ (SM.drew hS)) ((go_at_call 11; refine (tBalances_nil e 0 p _).mono ?_; rintro en w1 ⟨rfl, hb⟩; have HB1 : Hid (SM w w1) := Lib.hid (SM.call (SM.drew hS) hb); clear hb))
  have hM1 := blk_below HM.out HB1.out
  have hc1 := blk_cells hM1
  have hf1 := blk_frz hM1
  have hl1 := blk_lt hM1
  clear hM1 hcc
  go_wp2_with fail
  go_ret
  exact ⟨rfl, w1, HB1.out, rfl⟩

set_option maxHeartbeats 8000000 in
set_option maxRecDepth 100000 in
theorem shMake_nilb (c : Nat) (e p : Int) (w : World) : Calls Tryz.prog 27 #[.pointer (some ⟨c, 0, none⟩), .pointer none, .int .i64 e, .int .i64 p] w fun en w' => en = .returned (.tuple #[.agg #[.slice none 0 0, .slice none 0 0, .slice none 0 0, .int .i64 0, .int .i64 0, .int .i64 0, .int .i64 0, .int .i64 0, .int .i64 0], .int .i64 1]) ∧ Below w.heap.size w w' := by
  have hsf : ∀ (fn : Fn) (x y : Array Value) (ad : Addr) (m : Mode) (W : World), (store ad (.func fn x y) m).run Tryz.prog W = stored Tryz.prog W ad (.func fn x y) m := fun fn x y ad m W => run_store Tryz.prog W ad (.func fn x y) m rfl
  have hB0 : Below w.heap.size w (w.alloc (.cells #[.slice none 0 0, .slice none 0 0, .slice none 0 0, .int .i64 0, .int .i64 0, .int .i64 0, .int .i64 0, .int .i64 0, .int .i64 0] 75)) := (Below.refl w.heap.size w).alloc (Nat.le_refl _) _
  have hZ0 := blk_new w (.cells #[.slice none 0 0, .slice none 0 0, .slice none 0 0, .int .i64 0, .int .i64 0, .int .i64 0, .int .i64 0, .int .i64 0, .int .i64 0] 75)
  have HB0 := Lib.hid hB0
  have HZ0 := Lib.hid hZ0
  clear hB0 hZ0
  go_enter Tryz.func27, Tryz.ntmps27
  go_wp2_with fail
  obtain ⟨M, hM⟩ : ∃ M, w.heap.size + 1 = M := ⟨_, rfl⟩
  have HGE : Hid ((w.alloc (.cells #[.slice none 0 0, .slice none 0 0, .slice none 0 0, .int .i64 0, .int .i64 0, .int .i64 0, .int .i64 0, .int .i64 0, .int .i64 0] 75)).heap.size ≤ M) := Lib.hid (by simp; omega)
  have hwM : w.heap.size < M := by omega
  rw [hM]
  refine abs_world (S := fun wx => wx.heap[M]? = some (.cells #[.pointer (some ⟨c, 0, none⟩), .pointer none, .int .i64 e, .int .i64 p, .slice none 0 0, .slice none 0 0, .slice none 0 0, .slice none 0 0, .int .i64 0, .int .i64 0, .int .i64 0, .int .i64 0, .int .i64 0, .int .i64 0] 145 (0, 0)) ∧ Below (w.alloc (.cells #[.slice none 0 0, .slice none 0 0, .slice none 0 0, .int .i64 0, .int .i64 0, .int .i64 0, .int .i64 0, .int .i64 0, .int .i64 0] 75)).heap.size (w.alloc (.cells #[.slice none 0 0, .slice none 0 0, .slice none 0 0, .int .i64 0, .int .i64 0, .int .i64 0, .int .i64 0, .int .i64 0, .int .i64 0] 75)) wx ∧ wx.heap[M + 1]? = some (.cells #[.func (.func 96) #[.pointer (some ⟨M, 0, none⟩)] #[], .func (.func 97) #[.pointer (some ⟨M, 0, none⟩)] #[], .func (.func 98) #[.pointer (some ⟨M, 0, none⟩)] #[], .func (.func 99) #[.pointer (some ⟨M, 0, none⟩)] #[], .func (.func 100) #[.pointer (some ⟨M, 0, none⟩)] #[], .func (.func 101) #[.pointer (some ⟨M, 0, none⟩)] #[], .func (.func 102) #[.pointer (some ⟨M, 0, none⟩)] #[]] 146 (0, 0))) ?_ ⟨?_, ?_, ?_⟩
  rotate_left
  · subst hM
    have := blk_new (w.alloc (.cells #[.slice none 0 0, .slice none 0 0, .slice none 0 0, .int .i64 0, .int .i64 0, .int .i64 0, .int .i64 0, .int .i64 0, .int .i64 0] 75)) (.cells #[.pointer (some ⟨c, 0, none⟩), .pointer none, .int .i64 e, .int .i64 p, .slice none 0 0, .slice none 0 0, .slice none 0 0, .slice none 0 0, .int .i64 0, .int .i64 0, .int .i64 0, .int .i64 0, .int .i64 0, .int .i64 0] 145)
    exact blk_alloc (by simpa using this) _
  · exact ((Below.refl _ _).alloc (Nat.le_refl _) _).alloc (by simp) _
  · subst hM
    have := blk_new ((w.alloc (.cells #[.slice none 0 0, .slice none 0 0, .slice none 0 0, .int .i64 0, .int .i64 0, .int .i64 0, .int .i64 0, .int .i64 0, .int .i64 0] 75)).alloc (.cells #[.pointer (some ⟨c, 0, none⟩), .pointer none, .int .i64 e, .int .i64 p, .slice none 0 0, .slice none 0 0, .slice none 0 0, .slice none 0 0, .int .i64 0, .int .i64 0, .int .i64 0, .int .i64 0, .int .i64 0, .int .i64 0] 145)) (.cells #[.func (.func 96) #[.pointer (some ⟨w.heap.size + 1, 0, none⟩)] #[], .func (.func 97) #[.pointer (some ⟨w.heap.size + 1, 0, none⟩)] #[], .func (.func 98) #[.pointer (some ⟨w.heap.size + 1, 0, none⟩)] #[], .func (.func 99) #[.pointer (some ⟨w.heap.size + 1, 0, none⟩)] #[], .func (.func 100) #[.pointer (some ⟨w.heap.size + 1, 0, none⟩)] #[], .func (.func 101) #[.pointer (some ⟨w.heap.size + 1, 0, none⟩)] #[], .func (.func 102) #[.pointer (some ⟨w.heap.size + 1, 0, none⟩)] #[]] 146)
    simpa using this
  clear hM
  rintro wx ⟨hcell, hbel, hnx⟩
  have HCE := Lib.hid hcell
  have HBE := Lib.hid hbel
  have hct := blk_cells hnx
  clear hcell hbel hnx
  refine wp_loop_rounds 8 ?_
  rw [rounds_succ]
  go_wp2_with fail
  refine (shBal_nil HCE.out).mono ?_
  rintro en w1 ⟨rfl, w2, hb, rfl⟩
  have HB2 := Lib.hid ((HBE.out.trans (hb.mono HBE.out.size)).setCell (p := ⟨M, 4, none⟩) HGE.out (.slice none 0 0))
  have hzb := blk_below HZ0.out HB2.out
  have hcz := blk_cells hzb
  have hfz := blk_frz hzb
  have hlz := blk_lt hzb
  have HZB := Lib.hid hzb
  have HBW := Lib.hid (belows_then HB0.out HB0.out.size HB2.out)
  clear hzb hb HB2
  generalize w2.setCell ⟨M, 4, none⟩ (.slice none 0 0) = w3 at *
  go_wp2_with fail
  obtain ⟨w9, hw9, h9, hs9, hk9, hb9⟩ := nine _ w.heap.size HZB.out (.slice none 0 0) (.slice none 0 0) (.slice none 0 0) (.int .i64 0) (.int .i64 0) (.int .i64 0) (.int .i64 0) (.int .i64 0) (.int .i64 0)
  rw [hw9]
  clear hw9
  refine bodyPost_ret (v := .tuple #[.agg #[.slice none 0 0, .slice none 0 0, .slice none 0 0, .int .i64 0, .int .i64 0, .int .i64 0, .int .i64 0, .int .i64 0, .int .i64 0], .int .i64 1]) (results_row_tmp (fn := Tryz.f27) (p := 8) (ty := 75) rfl _ _ w.heap.size 75 _ (0, 0) _ rfl h9 Tryz.underlying75 rfl (by kernel_rfl)) rfl ?_
  exact ⟨rfl, hb9 _ _ HBW.out (Nat.le_refl _)⟩
end Go.Proofs.YtfnmlpnncjhnmaaGreat
