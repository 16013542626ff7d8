/- sheet.Make: the sheet of an entity at the end of a period. -/
import Derived.Test.YtfnmlpnncjhnmaaGreatX25TrialTells
import Derived.Test.YtfnmlpnncjhnmaaGreatX26TrialTells
import Derived.LoopN
set_option linter.unusedVariables false
set_option linter.unusedSimpArgs false
namespace Go.Proofs.YtfnmlpnncjhnmaaGreat
open Go.RowKit Go.Maps Go.Deep

def owT (r : List Ac) (l : List (Int × Int)) : Int × Int := addM ((l.filter (pickB r [1])).map (·.2))
def oeT (r : List Ac) (l : List (Int × Int)) : Int × Int := addM (((l.filter (pickB r [2])).map negB).map (·.2))
def heT (r : List Ac) (l : List (Int × Int)) : Int × Int := addM (((l.filter (pickB r [3])).map negB).map (·.2))
def otT (r : List Ac) (l : List (Int × Int)) : Int × Int := addM ((othL r l).map (·.2))
/-- the error of a sheet -/
def shE (r : List Ac) (J : List Jn) (e p : Int) : Int :=
  if (balT J e 0 p).2 != 0 then (balT J e 0 p).2 else if (owT r (balT J e 0 p).1).2 != 0 then (owT r (balT J e 0 p).1).2 else if (oeT r (balT J e 0 p).1).2 != 0 then (oeT r (balT J e 0 p).1).2 else
  if (heT r (balT J e 0 p).1).2 != 0 then (heT r (balT J e 0 p).1).2 else if (retT r J e p).2 != 0 then (retT r J e p).2 else if (curT r J e p).2 != 0 then (curT r J e p).2 else (otT r (balT J e 0 p).1).2
/-- its six sums, and the error -/
def shT (r : List Ac) (J : List Jn) (e p : Int) : (Int × Int × Int × Int × Int × Int) × Int :=
  if shE r J e p != 0 then ((0, 0, 0, 0, 0, 0), shE r J e p) else (((owT r (balT J e 0 p).1).1, (oeT r (balT J e 0 p).1).1, (heT r (balT J e 0 p).1).1, (retT r J e p).1, (curT r J e p).1, (otT r (balT J e 0 p).1).1), 0)
/-- what Make tells -/
def ShP (w : World) (n1 : Nat) (t : (Int × Int × Int × Int × Int × Int) × Int) (en : Ending) (w' : World) : Prop :=
  ∃ a1 m1 c1 a2 m2 c2 a3 m3 c3, en = .returned (.tuple #[.agg #[.slice a1 m1 c1, .slice a2 m2 c2, .slice a3 m3 c3, .int .i64 t.1.1, .int .i64 t.1.2.1, .int .i64 t.1.2.2.1, .int .i64 t.1.2.2.2.1, .int .i64 t.1.2.2.2.2.1, .int .i64 t.1.2.2.2.2.2], .int .i64 t.2]) ∧
    (t.2 = 0 → m1 = n1) ∧ (t.2 ≠ 0 → m1 = 0 ∧ m2 = 0 ∧ m3 = 0) ∧ Below w.heap.size w w'
/-- what Make tells, with the lists -/
def ShL (w : World) (X1 X2 X3 : List (Int × Int)) (t : (Int × Int × Int × Int × Int × Int) × Int) (en : Ending) (w' : World) : Prop :=
  ∃ a1 m1 c1 a2 m2 c2 a3 m3 c3, en = .returned (.tuple #[.agg #[.slice a1 m1 c1, .slice a2 m2 c2, .slice a3 m3 c3, .int .i64 t.1.1, .int .i64 t.1.2.1, .int .i64 t.1.2.2.1, .int .i64 t.1.2.2.2.1, .int .i64 t.1.2.2.2.2.1, .int .i64 t.1.2.2.2.2.2], .int .i64 t.2]) ∧
    (t.2 = 0 → (m1 = X1.length ∧ m2 = X2.length ∧ m3 = X3.length) ∧ (∀ p ∈ [(Value.slice a3 m3 c3, X3), (.slice a2 m2 c2, X2), (.slice a1 m1 c1, X1)], OwnL tBal w' w.heap.size p.1 p.2) ∧ [(Value.slice a3 m3 c3, X3), (.slice a2 m2 c2, X2), (.slice a1 m1 c1, X1)].Pairwise (fun p q => p.1.ownBlock = none ∨ p.1.ownBlock ≠ q.1.ownBlock)) ∧
    (t.2 ≠ 0 → Value.slice a1 m1 c1 = .slice none 0 0 ∧ Value.slice a2 m2 c2 = .slice none 0 0 ∧ Value.slice a3 m3 c3 = .slice none 0 0) ∧ Below w.heap.size w w'
theorem nine (w : World) (b : Nat) {t : TypeId} {x0 x1 x2 x3 x4 x5 x6 x7 x8 : Value} (h : w.heap[b]? = some (.cells #[x0, x1, x2, x3, x4, x5, x6, x7, x8] t (0, 0))) (v0 v1 v2 v3 v4 v5 v6 v7 v8 : Value) :
    ∃ w4, (((((((((w.setCell ⟨b, 0, none⟩ v0).setCell ⟨b, 1, none⟩ v1).setCell ⟨b, 2, none⟩ v2).setCell ⟨b, 3, none⟩ v3).setCell ⟨b, 4, none⟩ v4).setCell ⟨b, 5, none⟩ v5).setCell ⟨b, 6, none⟩ v6).setCell ⟨b, 7, none⟩ v7).setCell ⟨b, 8, none⟩ v8) = w4 ∧ w4.heap[b]? = some (.cells #[v0, v1, v2, v3, v4, v5, v6, v7, v8] t (0, 0)) ∧ w4.heap.size = w.heap.size ∧
      (∀ k, k ≠ b → w4.heap[k]? = w.heap[k]?) ∧ (∀ B w0, Below B w0 w → B ≤ b → Below B w0 w4) := by
  refine ⟨_, rfl, ?_, by simp, fun k hk => ?_, fun B w0 hb hB => ?_⟩
  · have := blk_set (blk_set (blk_set (blk_set (blk_set (blk_set (blk_set (blk_set (blk_set h 0 v0) 1 v1) 2 v2) 3 v3) 4 v4) 5 v5) 6 v6) 7 v7) 8 v8
    simpa using this
  · iterate 9 (rw [Below.heap_setCell _ _ _ k hk])
  · iterate 9 (refine Below.setCell ?_ hB _)
    exact hb
theorem trans_below {w0 w : World} {b : Nat} {o : Obj} (h : w0.heap[b]? = some o) (hb : Below w0.heap.size w0 w) : w.heap[b]? = some o := blk_below h hb

set_option maxHeartbeats 16000000 in
set_option maxRecDepth 100000 in
theorem shMake_own {w : World} {c g : Nat} {mb : Option Nat} {r : List Ac} {a : Option Addr} {cap : Nat} {J : List Jn} {F : Nat → Prop} (hc : ChartAt w c mb r) (hbk : BookAt w g a cap J F) (hl : J.length ≤ 100) (hgood : GoodJ J) (e p : Int) (hi : I64 p) {t : (Int × Int × Int × Int × Int × Int) × Int} (ht : shT r J e p = t) :
    Calls Tryz.prog 27 #[.pointer (some ⟨c, 0, none⟩), .pointer (some ⟨g, 0, none⟩), .int .i64 e, .int .i64 p] w (ShL w ((balT J e 0 p).1.filter (pickB r [1])) (((balT J e 0 p).1.filter (pickB r [2])).map negB) (((balT J e 0 p).1.filter (pickB r [3])).map negB) t) := by
  have hsf : ∀ (fn : Fn) (x y : Array Value) (ad : Addr) (m : Mode) (W : World), (store ad (.func fn x y) m).run Tryz.prog W = stored Tryz.prog W ad (.func fn x y) m := fun fn x y ad m W => run_store Tryz.prog W ad (.func fn x y) m rfl
  have hB0 : Below w.heap.size w (w.alloc (.cells #[.slice none 0 0, .slice none 0 0, .slice none 0 0, .int .i64 0, .int .i64 0, .int .i64 0, .int .i64 0, .int .i64 0, .int .i64 0] 75)) := (Below.refl w.heap.size w).alloc (Nat.le_refl _) _
  have HC := Lib.hid (hc.below hB0)
  have HK := Lib.hid (hbk.below hB0)
  have hZ0 := blk_new w (.cells #[.slice none 0 0, .slice none 0 0, .slice none 0 0, .int .i64 0, .int .i64 0, .int .i64 0, .int .i64 0, .int .i64 0, .int .i64 0] 75)
  have HT := Lib.hid ht
  have HG := Lib.hid hgood
  have HI := Lib.hid hi
  have HB0 := Lib.hid hB0
  have HZ0 := Lib.hid hZ0
  clear hc hbk ht hgood hi hB0 hZ0
  go_enter Tryz.func27, Tryz.ntmps27
  go_wp2_with fail
  obtain ⟨M, hM⟩ : ∃ M, w.heap.size + 1 = M := ⟨_, rfl⟩
  have HGE : Hid ((w.alloc (.cells #[.slice none 0 0, .slice none 0 0, .slice none 0 0, .int .i64 0, .int .i64 0, .int .i64 0, .int .i64 0, .int .i64 0, .int .i64 0] 75)).heap.size ≤ M) := Lib.hid (by simp; omega)
  have hwM : w.heap.size < M := by omega
  rw [hM]
  refine abs_world (S := fun wx => wx.heap[M]? = some (.cells #[.pointer (some ⟨c, 0, none⟩), .pointer (some ⟨g, 0, none⟩), .int .i64 e, .int .i64 p, (.slice none 0 0), (.slice none 0 0), (.slice none 0 0), (.slice none 0 0), .int .i64 0, .int .i64 0, .int .i64 0, .int .i64 0, .int .i64 0, .int .i64 0] 145 (0, 0)) ∧ Below (w.alloc (.cells #[.slice none 0 0, .slice none 0 0, .slice none 0 0, .int .i64 0, .int .i64 0, .int .i64 0, .int .i64 0, .int .i64 0, .int .i64 0] 75)).heap.size (w.alloc (.cells #[.slice none 0 0, .slice none 0 0, .slice none 0 0, .int .i64 0, .int .i64 0, .int .i64 0, .int .i64 0, .int .i64 0, .int .i64 0] 75)) wx ∧ wx.heap[M + 1]? = some (.cells #[.func (.func 96) #[.pointer (some ⟨M, 0, none⟩)] #[], .func (.func 97) #[.pointer (some ⟨M, 0, none⟩)] #[], .func (.func 98) #[.pointer (some ⟨M, 0, none⟩)] #[], .func (.func 99) #[.pointer (some ⟨M, 0, none⟩)] #[], .func (.func 100) #[.pointer (some ⟨M, 0, none⟩)] #[], .func (.func 101) #[.pointer (some ⟨M, 0, none⟩)] #[], .func (.func 102) #[.pointer (some ⟨M, 0, none⟩)] #[]] 146 (0, 0))) ?_ ⟨?_, ?_, ?_⟩
  rotate_left
  · subst hM
    have := blk_new (w.alloc (.cells #[.slice none 0 0, .slice none 0 0, .slice none 0 0, .int .i64 0, .int .i64 0, .int .i64 0, .int .i64 0, .int .i64 0, .int .i64 0] 75)) (.cells #[.pointer (some ⟨c, 0, none⟩), .pointer (some ⟨g, 0, none⟩), .int .i64 e, .int .i64 p, (.slice none 0 0), (.slice none 0 0), (.slice none 0 0), (.slice none 0 0), .int .i64 0, .int .i64 0, .int .i64 0, .int .i64 0, .int .i64 0, .int .i64 0] 145)
    exact blk_alloc (by simpa using this) _
  · exact ((Below.refl _ _).alloc (Nat.le_refl _) _).alloc (by simp) _
  · subst hM
    have := blk_new ((w.alloc (.cells #[.slice none 0 0, .slice none 0 0, .slice none 0 0, .int .i64 0, .int .i64 0, .int .i64 0, .int .i64 0, .int .i64 0, .int .i64 0] 75)).alloc (.cells #[.pointer (some ⟨c, 0, none⟩), .pointer (some ⟨g, 0, none⟩), .int .i64 e, .int .i64 p, (.slice none 0 0), (.slice none 0 0), (.slice none 0 0), (.slice none 0 0), .int .i64 0, .int .i64 0, .int .i64 0, .int .i64 0, .int .i64 0, .int .i64 0] 145)) (.cells #[.func (.func 96) #[.pointer (some ⟨w.heap.size + 1, 0, none⟩)] #[], .func (.func 97) #[.pointer (some ⟨w.heap.size + 1, 0, none⟩)] #[], .func (.func 98) #[.pointer (some ⟨w.heap.size + 1, 0, none⟩)] #[], .func (.func 99) #[.pointer (some ⟨w.heap.size + 1, 0, none⟩)] #[], .func (.func 100) #[.pointer (some ⟨w.heap.size + 1, 0, none⟩)] #[], .func (.func 101) #[.pointer (some ⟨w.heap.size + 1, 0, none⟩)] #[], .func (.func 102) #[.pointer (some ⟨w.heap.size + 1, 0, none⟩)] #[]] 146)
    simpa using this
  clear hM
  rintro wx ⟨hcell, hbel, hnx⟩
  have HCE := Lib.hid hcell
  have HBE := Lib.hid hbel
  have HNX := Lib.hid hnx
  have hct := blk_cells hnx
  clear hcell hbel hnx
  obtain ⟨l, er, hbt⟩ : ∃ l er, balT J e 0 p = (l, er) := ⟨_, _, rfl⟩
  have HBT := Lib.hid hbt
  have hbl : l.length ≤ 800 := by have := balT_len HG.out hl e 0 p; rw [hbt] at this; exact this
  have HF : Hid (∀ x ∈ l, fitsB x.2 = true) := Lib.hid (by have := balT_fit (J := J) (e := e) (f := 0) (t := p); rw [hbt] at this; exact this)
  clear hbt
  refine wp_loop_rounds 8 ?_
  rw [rounds_succ]
  go_wp2_with fail
  refine (shBal_any HCE.out HBE.out HGE.out HNX.out HK.out hl HG.out HI.out HBT.out).mono ?_
  rintro en w1 ⟨rfl, la, lc, hst⟩
  have HST := Lib.hid hst
  clear hst hct
  have hct := blk_cells HST.out.nxt
  have hcs : er = 0 ∨ (er != 0) = true := by by_cases h : er = 0 <;> simp [h]
  rcases hcs with rfl | hne
  rotate_left
  · skip
    have hbw := HST.out.bel
    have hzb := blk_below HZ0.out hbw
    have hcz := blk_cells hzb
    have hfz := blk_frz hzb
    have hlz := blk_lt hzb
    have HZB := Lib.hid hzb
    have HBW := Lib.hid (belows_then HB0.out HB0.out.size hbw)
    clear hzb hbw
    go_wp2_with fail
    obtain ⟨w9, hw9, h9, hs9, hk9, hb9⟩ := nine _ w.heap.size HZB.out (.slice none 0 0) (.slice none 0 0) (.slice none 0 0) (.int .i64 0) (.int .i64 0) (.int .i64 0) (.int .i64 0) (.int .i64 0) (.int .i64 0)
    rw [hw9]
    clear hw9
    refine bodyPost_ret (v := .tuple #[.agg #[.slice none 0 0, .slice none 0 0, .slice none 0 0, .int .i64 0, .int .i64 0, .int .i64 0, .int .i64 0, .int .i64 0, .int .i64 0], .int .i64 er]) (results_row_tmp (fn := Tryz.f27) (p := 8) (ty := 75) rfl _ _ w.heap.size 75 _ (0, 0) _ rfl h9 Tryz.underlying75 rfl (by kernel_rfl)) rfl ?_
    have HTE : Hid (t = ((0, 0, 0, 0, 0, 0), er)) := Lib.hid (by rw [← HT.out]; unfold shT shE; simp only [HBT.out]; simp [hne])
    rw [HTE.out]
    exact ⟨_, _, _, _, _, _, _, _, _, rfl, fun h => absurd h (by simpa using hne), fun _ => ⟨rfl, rfl, rfl⟩, hb9 _ _ HBW.out (Nat.le_refl _)⟩
  have hrb : rightB e 0 p = true := by
    rcases balT_cases J e 0 p with h | h | ⟨h, _⟩
    · rw [HBT.out] at h; cases (Prod.mk.inj h).2
    · rw [HBT.out] at h; cases (Prod.mk.inj h).2
    · exact h
  have HMO : Hid (monthOk p = true) := Lib.hid (by
    unfold rightB at hrb
    simp only [Bool.and_eq_true] at hrb
    exact hrb.2.1.2)
  clear hrb
  go_wp2_with fail
  rw [rounds_succ]
  go_wp2_with fail
  obtain ⟨u1, er1, hu1⟩ : ∃ u er, owT r l = (u, er) := ⟨_, _, rfl⟩
  have HE1 := Lib.hid hu1
  obtain ⟨X1, hX1⟩ : ∃ X, l.filter (pickB r [1]) = X := ⟨_, rfl⟩
  unfold owT at hu1
  rw [hX1] at hu1
  have HU1 := Lib.hid hu1
  clear hu1
  refine (shOwned_any HST.out (List.mem_cons_self ..) HC.out hbl HF.out hX1 HU1.out).mono ?_
  rintro en w2 ⟨rfl, a1, c1, hst⟩
  have HX1 := Lib.hid hX1
  clear hX1
  clear HST
  have HST := Lib.hid hst
  clear hst hct
  have hct := blk_cells HST.out.nxt
  have hcs : er1 = 0 ∨ (er1 != 0) = true := by by_cases h : er1 = 0 <;> simp [h]
  rcases hcs with rfl | hne
  rotate_left
  · skip
    have hbw := HST.out.bel
    have hzb := blk_below HZ0.out hbw
    have hcz := blk_cells hzb
    have hfz := blk_frz hzb
    have hlz := blk_lt hzb
    have HZB := Lib.hid hzb
    have HBW := Lib.hid (belows_then HB0.out HB0.out.size hbw)
    clear hzb hbw
    go_wp2_with fail
    obtain ⟨w9, hw9, h9, hs9, hk9, hb9⟩ := nine _ w.heap.size HZB.out (.slice none 0 0) (.slice none 0 0) (.slice none 0 0) (.int .i64 0) (.int .i64 0) (.int .i64 0) (.int .i64 0) (.int .i64 0) (.int .i64 0)
    rw [hw9]
    clear hw9
    refine bodyPost_ret (v := .tuple #[.agg #[.slice none 0 0, .slice none 0 0, .slice none 0 0, .int .i64 0, .int .i64 0, .int .i64 0, .int .i64 0, .int .i64 0, .int .i64 0], .int .i64 er1]) (results_row_tmp (fn := Tryz.f27) (p := 8) (ty := 75) rfl _ _ w.heap.size 75 _ (0, 0) _ rfl h9 Tryz.underlying75 rfl (by kernel_rfl)) rfl ?_
    have HTE : Hid (t = ((0, 0, 0, 0, 0, 0), er1)) := Lib.hid (by rw [← HT.out]; unfold shT shE; simp only [HBT.out, HE1.out]; simp [hne])
    rw [HTE.out]
    exact ⟨_, _, _, _, _, _, _, _, _, rfl, fun h => absurd h (by simpa using hne), fun _ => ⟨rfl, rfl, rfl⟩, hb9 _ _ HBW.out (Nat.le_refl _)⟩
  go_wp2_with fail
  rw [rounds_succ]
  go_wp2_with fail
  obtain ⟨u2, er2, hu2⟩ : ∃ u er, oeT r l = (u, er) := ⟨_, _, rfl⟩
  have HE2 := Lib.hid hu2
  obtain ⟨X2, hX2⟩ : ∃ X, (l.filter (pickB r [2])).map negB = X := ⟨_, rfl⟩
  unfold oeT at hu2
  rw [hX2] at hu2
  have HU2 := Lib.hid hu2
  clear hu2
  refine (shOwed_any HST.out (List.mem_cons_of_mem _ (List.mem_cons_self ..)) HC.out hbl HF.out hX2 HU2.out).mono ?_
  rintro en w2 ⟨rfl, a2, c2, hst⟩
  have HX2 := Lib.hid hX2
  clear hX2
  clear HST
  have HST := Lib.hid hst
  clear hst hct
  have hct := blk_cells HST.out.nxt
  have hcs : er2 = 0 ∨ (er2 != 0) = true := by by_cases h : er2 = 0 <;> simp [h]
  rcases hcs with rfl | hne
  rotate_left
  · skip
    have hbw := HST.out.bel
    have hzb := blk_below HZ0.out hbw
    have hcz := blk_cells hzb
    have hfz := blk_frz hzb
    have hlz := blk_lt hzb
    have HZB := Lib.hid hzb
    have HBW := Lib.hid (belows_then HB0.out HB0.out.size hbw)
    clear hzb hbw
    go_wp2_with fail
    obtain ⟨w9, hw9, h9, hs9, hk9, hb9⟩ := nine _ w.heap.size HZB.out (.slice none 0 0) (.slice none 0 0) (.slice none 0 0) (.int .i64 0) (.int .i64 0) (.int .i64 0) (.int .i64 0) (.int .i64 0) (.int .i64 0)
    rw [hw9]
    clear hw9
    refine bodyPost_ret (v := .tuple #[.agg #[.slice none 0 0, .slice none 0 0, .slice none 0 0, .int .i64 0, .int .i64 0, .int .i64 0, .int .i64 0, .int .i64 0, .int .i64 0], .int .i64 er2]) (results_row_tmp (fn := Tryz.f27) (p := 8) (ty := 75) rfl _ _ w.heap.size 75 _ (0, 0) _ rfl h9 Tryz.underlying75 rfl (by kernel_rfl)) rfl ?_
    have HTE : Hid (t = ((0, 0, 0, 0, 0, 0), er2)) := Lib.hid (by rw [← HT.out]; unfold shT shE; simp only [HBT.out, HE1.out, HE2.out]; simp [hne])
    rw [HTE.out]
    exact ⟨_, _, _, _, _, _, _, _, _, rfl, fun h => absurd h (by simpa using hne), fun _ => ⟨rfl, rfl, rfl⟩, hb9 _ _ HBW.out (Nat.le_refl _)⟩
  go_wp2_with fail
  rw [rounds_succ]
  go_wp2_with fail
  obtain ⟨u3, er3, hu3⟩ : ∃ u er, heT r l = (u, er) := ⟨_, _, rfl⟩
  have HE3 := Lib.hid hu3
  obtain ⟨X3, hX3⟩ : ∃ X, (l.filter (pickB r [3])).map negB = X := ⟨_, rfl⟩
  unfold heT at hu3
  rw [hX3] at hu3
  have HU3 := Lib.hid hu3
  clear hu3
  refine (shHeld_any HST.out (List.mem_cons_of_mem _ (List.mem_cons_of_mem _ (List.mem_cons_self ..))) HC.out hbl HF.out hX3 HU3.out).mono ?_
  rintro en w2 ⟨rfl, a3, c3, hst⟩
  have HX3 := Lib.hid hX3
  clear hX3
  clear HST
  have HST := Lib.hid hst
  clear hst hct
  have hct := blk_cells HST.out.nxt
  have hcs : er3 = 0 ∨ (er3 != 0) = true := by by_cases h : er3 = 0 <;> simp [h]
  rcases hcs with rfl | hne
  rotate_left
  · skip
    have hbw := HST.out.bel
    have hzb := blk_below HZ0.out hbw
    have hcz := blk_cells hzb
    have hfz := blk_frz hzb
    have hlz := blk_lt hzb
    have HZB := Lib.hid hzb
    have HBW := Lib.hid (belows_then HB0.out HB0.out.size hbw)
    clear hzb hbw
    go_wp2_with fail
    obtain ⟨w9, hw9, h9, hs9, hk9, hb9⟩ := nine _ w.heap.size HZB.out (.slice none 0 0) (.slice none 0 0) (.slice none 0 0) (.int .i64 0) (.int .i64 0) (.int .i64 0) (.int .i64 0) (.int .i64 0) (.int .i64 0)
    rw [hw9]
    clear hw9
    refine bodyPost_ret (v := .tuple #[.agg #[.slice none 0 0, .slice none 0 0, .slice none 0 0, .int .i64 0, .int .i64 0, .int .i64 0, .int .i64 0, .int .i64 0, .int .i64 0], .int .i64 er3]) (results_row_tmp (fn := Tryz.f27) (p := 8) (ty := 75) rfl _ _ w.heap.size 75 _ (0, 0) _ rfl h9 Tryz.underlying75 rfl (by kernel_rfl)) rfl ?_
    have HTE : Hid (t = ((0, 0, 0, 0, 0, 0), er3)) := Lib.hid (by rw [← HT.out]; unfold shT shE; simp only [HBT.out, HE1.out, HE2.out, HE3.out]; simp [hne])
    rw [HTE.out]
    exact ⟨_, _, _, _, _, _, _, _, _, rfl, fun h => absurd h (by simpa using hne), fun _ => ⟨rfl, rfl, rfl⟩, hb9 _ _ HBW.out (Nat.le_refl _)⟩
  go_wp2_with fail
  rw [rounds_succ]
  go_wp2_with fail
  obtain ⟨u4, er4, hu4⟩ : ∃ u er, retT r J e p = (u, er) := ⟨_, _, rfl⟩
  have HE4 := Lib.hid hu4
  have HU4 := Lib.hid hu4
  clear hu4
  refine (shRet_any HST.out HC.out HK.out hl HG.out HMO.out HI.out HU4.out).mono ?_
  rintro en w2 ⟨rfl, hst⟩
  clear HST
  have HST := Lib.hid hst
  clear hst hct
  have hct := blk_cells HST.out.nxt
  have hcs : er4 = 0 ∨ (er4 != 0) = true := by by_cases h : er4 = 0 <;> simp [h]
  rcases hcs with rfl | hne
  rotate_left
  · skip
    have hbw := HST.out.bel
    have hzb := blk_below HZ0.out hbw
    have hcz := blk_cells hzb
    have hfz := blk_frz hzb
    have hlz := blk_lt hzb
    have HZB := Lib.hid hzb
    have HBW := Lib.hid (belows_then HB0.out HB0.out.size hbw)
    clear hzb hbw
    go_wp2_with fail
    obtain ⟨w9, hw9, h9, hs9, hk9, hb9⟩ := nine _ w.heap.size HZB.out (.slice none 0 0) (.slice none 0 0) (.slice none 0 0) (.int .i64 0) (.int .i64 0) (.int .i64 0) (.int .i64 0) (.int .i64 0) (.int .i64 0)
    rw [hw9]
    clear hw9
    refine bodyPost_ret (v := .tuple #[.agg #[.slice none 0 0, .slice none 0 0, .slice none 0 0, .int .i64 0, .int .i64 0, .int .i64 0, .int .i64 0, .int .i64 0, .int .i64 0], .int .i64 er4]) (results_row_tmp (fn := Tryz.f27) (p := 8) (ty := 75) rfl _ _ w.heap.size 75 _ (0, 0) _ rfl h9 Tryz.underlying75 rfl (by kernel_rfl)) rfl ?_
    have HTE : Hid (t = ((0, 0, 0, 0, 0, 0), er4)) := Lib.hid (by rw [← HT.out]; unfold shT shE; simp only [HBT.out, HE1.out, HE2.out, HE3.out, HE4.out]; simp [hne])
    rw [HTE.out]
    exact ⟨_, _, _, _, _, _, _, _, _, rfl, fun h => absurd h (by simpa using hne), fun _ => ⟨rfl, rfl, rfl⟩, hb9 _ _ HBW.out (Nat.le_refl _)⟩
  go_wp2_with fail
  rw [rounds_succ]
  go_wp2_with fail
  obtain ⟨u5, er5, hu5⟩ : ∃ u er, curT r J e p = (u, er) := ⟨_, _, rfl⟩
  have HE5 := Lib.hid hu5
  have HU5 := Lib.hid hu5
  clear hu5
  refine (shCur_any HST.out HC.out HK.out hl HG.out HMO.out HI.out HU5.out).mono ?_
  rintro en w2 ⟨rfl, hst⟩
  clear HST
  have HST := Lib.hid hst
  clear hst hct
  have hct := blk_cells HST.out.nxt
  have hcs : er5 = 0 ∨ (er5 != 0) = true := by by_cases h : er5 = 0 <;> simp [h]
  rcases hcs with rfl | hne
  rotate_left
  · skip
    have hbw := HST.out.bel
    have hzb := blk_below HZ0.out hbw
    have hcz := blk_cells hzb
    have hfz := blk_frz hzb
    have hlz := blk_lt hzb
    have HZB := Lib.hid hzb
    have HBW := Lib.hid (belows_then HB0.out HB0.out.size hbw)
    clear hzb hbw
    go_wp2_with fail
    obtain ⟨w9, hw9, h9, hs9, hk9, hb9⟩ := nine _ w.heap.size HZB.out (.slice none 0 0) (.slice none 0 0) (.slice none 0 0) (.int .i64 0) (.int .i64 0) (.int .i64 0) (.int .i64 0) (.int .i64 0) (.int .i64 0)
    rw [hw9]
    clear hw9
    refine bodyPost_ret (v := .tuple #[.agg #[.slice none 0 0, .slice none 0 0, .slice none 0 0, .int .i64 0, .int .i64 0, .int .i64 0, .int .i64 0, .int .i64 0, .int .i64 0], .int .i64 er5]) (results_row_tmp (fn := Tryz.f27) (p := 8) (ty := 75) rfl _ _ w.heap.size 75 _ (0, 0) _ rfl h9 Tryz.underlying75 rfl (by kernel_rfl)) rfl ?_
    have HTE : Hid (t = ((0, 0, 0, 0, 0, 0), er5)) := Lib.hid (by rw [← HT.out]; unfold shT shE; simp only [HBT.out, HE1.out, HE2.out, HE3.out, HE4.out, HE5.out]; simp [hne])
    rw [HTE.out]
    exact ⟨_, _, _, _, _, _, _, _, _, rfl, fun h => absurd h (by simpa using hne), fun _ => ⟨rfl, rfl, rfl⟩, hb9 _ _ HBW.out (Nat.le_refl _)⟩
  go_wp2_with fail
  rw [rounds_succ]
  go_wp2_with fail
  obtain ⟨u6, er6, hu6⟩ : ∃ u er, otT r l = (u, er) := ⟨_, _, rfl⟩
  have HE6 := Lib.hid hu6
  unfold otT at hu6
  have HU6 := Lib.hid hu6
  clear hu6
  refine (shOther_any HST.out (List.mem_cons_of_mem _ (List.mem_cons_of_mem _ (List.mem_cons_of_mem _ (List.mem_cons_self ..)))) HC.out hbl HF.out HU6.out).mono ?_
  rintro en w2 ⟨rfl, hst⟩
  clear HST
  have HST := Lib.hid hst
  clear hst hct
  have hct := blk_cells HST.out.nxt
  have hcs : er6 = 0 ∨ (er6 != 0) = true := by by_cases h : er6 = 0 <;> simp [h]
  rcases hcs with rfl | hne
  rotate_left
  · skip
    have hbw := HST.out.bel
    have hzb := blk_below HZ0.out hbw
    have hcz := blk_cells hzb
    have hfz := blk_frz hzb
    have hlz := blk_lt hzb
    have HZB := Lib.hid hzb
    have HBW := Lib.hid (belows_then HB0.out HB0.out.size hbw)
    clear hzb hbw
    go_wp2_with fail
    obtain ⟨w9, hw9, h9, hs9, hk9, hb9⟩ := nine _ w.heap.size HZB.out (.slice none 0 0) (.slice none 0 0) (.slice none 0 0) (.int .i64 0) (.int .i64 0) (.int .i64 0) (.int .i64 0) (.int .i64 0) (.int .i64 0)
    rw [hw9]
    clear hw9
    refine bodyPost_ret (v := .tuple #[.agg #[.slice none 0 0, .slice none 0 0, .slice none 0 0, .int .i64 0, .int .i64 0, .int .i64 0, .int .i64 0, .int .i64 0, .int .i64 0], .int .i64 er6]) (results_row_tmp (fn := Tryz.f27) (p := 8) (ty := 75) rfl _ _ w.heap.size 75 _ (0, 0) _ rfl h9 Tryz.underlying75 rfl (by kernel_rfl)) rfl ?_
    have HTE : Hid (t = ((0, 0, 0, 0, 0, 0), er6)) := Lib.hid (by rw [← HT.out]; unfold shT shE; simp only [HBT.out, HE1.out, HE2.out, HE3.out, HE4.out, HE5.out, HE6.out]; simp [hne])
    rw [HTE.out]
    exact ⟨_, _, _, _, _, _, _, _, _, rfl, fun h => absurd h (by simpa using hne), fun _ => ⟨rfl, rfl, rfl⟩, hb9 _ _ HBW.out (Nat.le_refl _)⟩
  go_wp2_with fail
  rw [rounds_succ]
  have hcM := blk_cells HST.out.cell
  have hlM := blk_lt HST.out.cell
  have hbw := HST.out.bel
  have hzb := blk_below HZ0.out hbw
  have hcz := blk_cells hzb
  have hfz := blk_frz hzb
  have hlz := blk_lt hzb
  have HZB := Lib.hid hzb
  have HBW := Lib.hid (belows_then HB0.out HB0.out.size hbw)
  have hne : ¬ w.heap.size = M := by omega
  have hne' : ¬ M = w.heap.size := by omega
  clear hzb hbw
  go_wp2_with fail
  obtain ⟨w9, hw9, h9, hs9, hk9, hb9⟩ := nine _ w.heap.size HZB.out (.slice a1 X1.length c1) (.slice a2 X2.length c2) (.slice a3 X3.length c3) (.int .i64 u1) (.int .i64 u2) (.int .i64 u3) (.int .i64 u4) (.int .i64 u5) (.int .i64 u6)
  rw [hw9]
  clear hw9
  refine bodyPost_ret (v := .tuple #[.agg #[.slice a1 X1.length c1, .slice a2 X2.length c2, .slice a3 X3.length c3, .int .i64 u1, .int .i64 u2, .int .i64 u3, .int .i64 u4, .int .i64 u5, .int .i64 u6], .int .i64 0]) (results_row_tmp (fn := Tryz.f27) (p := 8) (ty := 75) rfl _ _ w.heap.size 75 _ (0, 0) _ rfl h9 Tryz.underlying75 rfl (by kernel_rfl)) rfl ?_
  have HTE : Hid (t = ((u1, u2, u3, u4, u5, u6), 0)) := Lib.hid (by rw [← HT.out]; unfold shT shE; simp only [HBT.out, HE1.out, HE2.out, HE3.out, HE4.out, HE5.out, HE6.out]; simp)
  rw [HTE.out, HBT.out]
  simp only
  rw [HX1.out, HX2.out, HX3.out]
  refine ⟨_, _, _, _, _, _, _, _, _, rfl, fun _ => ⟨⟨rfl, rfl, rfl⟩, fun q hq => ?_, ?_⟩, fun h => absurd rfl h, hb9 _ _ HBW.out (Nat.le_refl _)⟩
  · have hq' : q ∈ [(Value.slice a3 X3.length c3, X3), (.slice a2 X2.length c2, X2), (.slice a1 X1.length c1, X1), (.slice la l.length lc, l)] := by
      simp only [List.mem_cons, List.not_mem_nil, or_false] at hq ⊢
      rcases hq with h | h | h
      · exact .inl h
      · exact .inr (.inl h)
      · exact .inr (.inr (.inl h))
    have ho := (HST.out.own q hq').mono HB0.out.size
    have hn := ho.ne HZB.out (by decide)
    exact own_set ho (fun k hk => hk9 k (fun e => hn (by rw [hk, e])))
  · have := HST.out.ap
    rw [List.pairwise_cons, List.pairwise_cons, List.pairwise_cons] at this
    obtain ⟨h1, h2, h3, _⟩ := this
    refine List.pairwise_cons.2 ⟨fun q hq => h1 q (by simp at hq ⊢; rcases hq with h | h; exact .inl h; exact .inr (.inl h)), List.pairwise_cons.2 ⟨fun q hq => h2 q (by simp at hq ⊢; exact .inl hq), List.pairwise_singleton _ _⟩⟩
theorem shMake_any {w : World} {c g : Nat} {mb : Option Nat} {r : List Ac} {a : Option Addr} {cap : Nat} {J : List Jn} {F : Nat → Prop} (hc : ChartAt w c mb r) (hbk : BookAt w g a cap J F) (hl : J.length ≤ 100) (hgood : GoodJ J) (e p : Int) (hi : I64 p) {t : (Int × Int × Int × Int × Int × Int) × Int} (ht : shT r J e p = t) :
    Calls Tryz.prog 27 #[.pointer (some ⟨c, 0, none⟩), .pointer (some ⟨g, 0, none⟩), .int .i64 e, .int .i64 p] w (ShP w ((balT J e 0 p).1.filter (pickB r [1])).length t) := by
  refine (shMake_own hc hbk hl hgood e p hi ht).mono ?_
  rintro en w' ⟨a1, m1, c1, a2, m2, c2, a3, m3, c3, rfl, h0, h1, hb⟩
  refine ⟨_, _, _, _, _, _, _, _, _, rfl, fun h => (h0 h).1.1, fun h => ?_, hb⟩
  obtain ⟨g1, g2, g3⟩ := h1 h
  injection g1 with _ g1
  injection g2 with _ g2
  injection g3 with _ g3
  exact ⟨g1, g2, g3⟩
end Go.Proofs.YtfnmlpnncjhnmaaGreat
