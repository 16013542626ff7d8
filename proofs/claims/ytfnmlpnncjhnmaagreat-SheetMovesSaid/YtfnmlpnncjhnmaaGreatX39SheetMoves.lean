/- sheet.Make where there is no chart, or no book. -/
import Derived.Test.YtfnmlpnncjhnmaaGreatX26SheetMoves
import Derived.Test.YtfnmlpnncjhnmaaGreatX22SheetMoves
import Derived.Test.YtfnmlpnncjhnmaaGreatX20SheetMoves
import Derived.Test.YtfnmlpnncjhnmaaGreatX18SheetMoves
import Derived.Test.YtfnmlpnncjhnmaaGreatX21SheetMoves
import Derived.Test.YtfnmlpnncjhnmaaGreatX37SheetMoves
set_option linter.unusedVariables false
set_option linter.unusedSimpArgs false
namespace Go.Proofs.YtfnmlpnncjhnmaaGreat
open Go.RowKit Go.Maps Go.Deep

set_option maxHeartbeats 4000000 in
theorem tBalances_nil (e f t : Int) (w : World) : Calls Tryz.prog 11 #[.pointer none, tofv e f t] w fun en w' => en = .returned (.tuple #[.slice none 0 0, .int .i64 1]) ∧ Below w.heap.size w w' := by
  have HZ := Lib.hid (blk_new w (.cells #[.int .i64 e, .int .i64 f, .int .i64 t] 31))
  have HB := Lib.hid ((Below.refl w.heap.size w).alloc (Nat.le_refl _) (.cells #[.int .i64 e, .int .i64 f, .int .i64 t] 31))
  go_enter Tryz.func11, Tryz.ntmps11
  go_wp2_with fail
  go_ret2
  exact ⟨rfl, HB.out⟩

set_option maxHeartbeats 8000000 in
set_option maxRecDepth 100000 in
theorem shMake_nilc (v : Value) (e p : Int) (w : World) : Calls Tryz.prog 27 #[.pointer none, v, .int .i64 e, .int .i64 p] w fun en w' => en = .returned (.tuple #[.agg #[.slice none 0 0, .slice none 0 0, .slice none 0 0, .int .i64 0, .int .i64 0, .int .i64 0, .int .i64 0, .int .i64 0, .int .i64 0], .int .i64 1]) ∧ Below w.heap.size w w' := by
  have HZ := Lib.hid (blk_new w (.cells #[.slice none 0 0, .slice none 0 0, .slice none 0 0, .int .i64 0, .int .i64 0, .int .i64 0, .int .i64 0, .int .i64 0, .int .i64 0] 75))
  have HB := Lib.hid ((Below.refl w.heap.size w).alloc (Nat.le_refl _) (.cells #[.slice none 0 0, .slice none 0 0, .slice none 0 0, .int .i64 0, .int .i64 0, .int .i64 0, .int .i64 0, .int .i64 0, .int .i64 0] 75))
  have hcz := blk_cells HZ.out
  have hfz := blk_frz HZ.out
  have hlz := blk_lt HZ.out
  go_enter Tryz.func27, Tryz.ntmps27
  go_wp2_with fail
  refine bodyPost_ret (v := .tuple #[.agg #[.slice none 0 0, .slice none 0 0, .slice none 0 0, .int .i64 0, .int .i64 0, .int .i64 0, .int .i64 0, .int .i64 0, .int .i64 0], .int .i64 1]) (results_row_tmp (fn := Tryz.f27) (p := 8) (ty := 75) rfl _ _ w.heap.size 75 _ (0, 0) _ rfl HZ.out Tryz.underlying75 rfl (by kernel_rfl)) rfl ?_
  exact ⟨rfl, HB.out⟩

set_option maxHeartbeats 8000000 in
set_option maxRecDepth 100000 in
theorem shBal_nil {w : World} {M : Nat} {e p o1 o2 o3 o4 o5 o6 : Int} {cp vl A L E : Value} (hM : w.heap[M]? = some (.cells #[cp, .pointer none, .int .i64 e, .int .i64 p, vl, A, L, E, .int .i64 o1, .int .i64 o2, .int .i64 o3, .int .i64 o4, .int .i64 o5, .int .i64 o6] 145 (0, 0))) :
    Calls Tryz.prog 96 #[.pointer (some ⟨M, 0, none⟩)] w fun en w' => en = .returned (.int .i64 1) ∧ ∃ w1, Below w.heap.size w w1 ∧ w' = w1.setCell ⟨M, 4, none⟩ (.slice none 0 0) := by
  have HM := Lib.hid hM
  have hcc := blk_cells hM
  have hlt := blk_lt hM
  clear hM
  have hS : SM w w := Below.refl _ _
  have KS : Hid (∀ W, SM w W → (W.cell? ⟨M, 1, none⟩ = some (.pointer none) ∧ W.cell? ⟨M, 2, none⟩ = some (.int .i64 e) ∧ W.cell? ⟨M, 3, none⟩ = some (.int .i64 p))) := Lib.hid (fun W h => ⟨SM.at' HM.out h 1 rfl, SM.at' HM.out h 2 rfl, SM.at' HM.out h 3 rfl⟩)
  go_enter Tryz.func96, Tryz.ntmps96
  go_wp2_with fail
  go_region_held3 (fun w' => w'.cell? ⟨M, 1, none⟩ = some (.pointer none) ∧ w'.cell? ⟨M, 2, none⟩ = some (.int .i64 e) ∧ w'.cell? ⟨M, 3, none⟩ = some (.int .i64 p)) (first | with_reducible exact KS.out _ HB1.out | with_reducible exact KS.out _ (SM.drew hS)) ((go_at_call 11; refine (tBalances_nil e 0 p _).mono ?_; rintro en w1 ⟨rfl, hb⟩; have HB1 : Hid (SM w w1) := Lib.hid (SM.call (SM.drew hS) hb); clear hb))
  have hM1 := blk_below HM.out HB1.out
  have hc1 := blk_cells hM1
  have hf1 := blk_frz hM1
  have hl1 := blk_lt hM1
  clear hM1 hcc
  go_wp2_with fail
  go_ret
  exact ⟨rfl, w1, HB1.out, rfl⟩

set_option maxHeartbeats 8000000 in
set_option maxRecDepth 100000 in
theorem shMake_nilb (c : Nat) (e p : Int) (w : World) : Calls Tryz.prog 27 #[.pointer (some ⟨c, 0, none⟩), .pointer none, .int .i64 e, .int .i64 p] w fun en w' => en = .returned (.tuple #[.agg #[.slice none 0 0, .slice none 0 0, .slice none 0 0, .int .i64 0, .int .i64 0, .int .i64 0, .int .i64 0, .int .i64 0, .int .i64 0], .int .i64 1]) ∧ Below w.heap.size w w' := by
  have hsf : ∀ (fn : Fn) (x y : Array Value) (ad : Addr) (m : Mode) (W : World), (store ad (.func fn x y) m).run Tryz.prog W = stored Tryz.prog W ad (.func fn x y) m := fun fn x y ad m W => run_store Tryz.prog W ad (.func fn x y) m rfl
  have hB0 : Below w.heap.size w (w.alloc (.cells #[.slice none 0 0, .slice none 0 0, .slice none 0 0, .int .i64 0, .int .i64 0, .int .i64 0, .int .i64 0, .int .i64 0, .int .i64 0] 75)) := (Below.refl w.heap.size w).alloc (Nat.le_refl _) _
  have hZ0 := blk_new w (.cells #[.slice none 0 0, .slice none 0 0, .slice none 0 0, .int .i64 0, .int .i64 0, .int .i64 0, .int .i64 0, .int .i64 0, .int .i64 0] 75)
  have HB0 := Lib.hid hB0
  have HZ0 := Lib.hid hZ0
  clear hB0 hZ0
  go_enter Tryz.func27, Tryz.ntmps27
  go_wp2_with fail
  obtain ⟨M, hM⟩ : ∃ M, w.heap.size + 1 = M := ⟨_, rfl⟩
  have HGE : Hid ((w.alloc (.cells #[.slice none 0 0, .slice none 0 0, .slice none 0 0, .int .i64 0, .int .i64 0, .int .i64 0, .int .i64 0, .int .i64 0, .int .i64 0] 75)).heap.size ≤ M) := Lib.hid (by simp; omega)
  have hwM : w.heap.size < M := by omega
  rw [hM]
  refine abs_world (S := fun wx => wx.heap[M]? = some (.cells #[.pointer (some ⟨c, 0, none⟩), .pointer none, .int .i64 e, .int .i64 p, .slice none 0 0, .slice none 0 0, .slice none 0 0, .slice none 0 0, .int .i64 0, .int .i64 0, .int .i64 0, .int .i64 0, .int .i64 0, .int .i64 0] 145 (0, 0)) ∧ Below (w.alloc (.cells #[.slice none 0 0, .slice none 0 0, .slice none 0 0, .int .i64 0, .int .i64 0, .int .i64 0, .int .i64 0, .int .i64 0, .int .i64 0] 75)).heap.size (w.alloc (.cells #[.slice none 0 0, .slice none 0 0, .slice none 0 0, .int .i64 0, .int .i64 0, .int .i64 0, .int .i64 0, .int .i64 0, .int .i64 0] 75)) wx ∧ wx.heap[M + 1]? = some (.cells #[.func (.func 96) #[.pointer (some ⟨M, 0, none⟩)] #[], .func (.func 97) #[.pointer (some ⟨M, 0, none⟩)] #[], .func (.func 98) #[.pointer (some ⟨M, 0, none⟩)] #[], .func (.func 99) #[.pointer (some ⟨M, 0, none⟩)] #[], .func (.func 100) #[.pointer (some ⟨M, 0, none⟩)] #[], .func (.func 101) #[.pointer (some ⟨M, 0, none⟩)] #[], .func (.func 102) #[.pointer (some ⟨M, 0, none⟩)] #[]] 146 (0, 0))) ?_ ⟨?_, ?_, ?_⟩
  rotate_left
  · subst hM
    have := blk_new (w.alloc (.cells #[.slice none 0 0, .slice none 0 0, .slice none 0 0, .int .i64 0, .int .i64 0, .int .i64 0, .int .i64 0, .int .i64 0, .int .i64 0] 75)) (.cells #[.pointer (some ⟨c, 0, none⟩), .pointer none, .int .i64 e, .int .i64 p, .slice none 0 0, .slice none 0 0, .slice none 0 0, .slice none 0 0, .int .i64 0, .int .i64 0, .int .i64 0, .int .i64 0, .int .i64 0, .int .i64 0] 145)
    exact blk_alloc (by simpa using this) _
  · exact ((Below.refl _ _).alloc (Nat.le_refl _) _).alloc (by simp) _
  · subst hM
    have := blk_new ((w.alloc (.cells #[.slice none 0 0, .slice none 0 0, .slice none 0 0, .int .i64 0, .int .i64 0, .int .i64 0, .int .i64 0, .int .i64 0, .int .i64 0] 75)).alloc (.cells #[.pointer (some ⟨c, 0, none⟩), .pointer none, .int .i64 e, .int .i64 p, .slice none 0 0, .slice none 0 0, .slice none 0 0, .slice none 0 0, .int .i64 0, .int .i64 0, .int .i64 0, .int .i64 0, .int .i64 0, .int .i64 0] 145)) (.cells #[.func (.func 96) #[.pointer (some ⟨w.heap.size + 1, 0, none⟩)] #[], .func (.func 97) #[.pointer (some ⟨w.heap.size + 1, 0, none⟩)] #[], .func (.func 98) #[.pointer (some ⟨w.heap.size + 1, 0, none⟩)] #[], .func (.func 99) #[.pointer (some ⟨w.heap.size + 1, 0, none⟩)] #[], .func (.func 100) #[.pointer (some ⟨w.heap.size + 1, 0, none⟩)] #[], .func (.func 101) #[.pointer (some ⟨w.heap.size + 1, 0, none⟩)] #[], .func (.func 102) #[.pointer (some ⟨w.heap.size + 1, 0, none⟩)] #[]] 146)
    simpa using this
  clear hM
  rintro wx ⟨hcell, hbel, hnx⟩
  have HCE := Lib.hid hcell
  have HBE := Lib.hid hbel
  have hct := blk_cells hnx
  clear hcell hbel hnx
  refine wp_loop_rounds 8 ?_
  rw [rounds_succ]
  go_wp2_with fail
  refine (shBal_nil HCE.out).mono ?_
  rintro en w1 ⟨rfl, w2, hb, rfl⟩
  have HB2 := Lib.hid ((HBE.out.trans (hb.mono HBE.out.size)).setCell (p := ⟨M, 4, none⟩) HGE.out (.slice none 0 0))
  have hzb := blk_below HZ0.out HB2.out
  have hcz := blk_cells hzb
  have hfz := blk_frz hzb
  have hlz := blk_lt hzb
  have HZB := Lib.hid hzb
  have HBW := Lib.hid (belows_then HB0.out HB0.out.size HB2.out)
  clear hzb hb HB2
  generalize w2.setCell ⟨M, 4, none⟩ (.slice none 0 0) = w3 at *
  go_wp2_with fail
  obtain ⟨w9, hw9, h9, hs9, hk9, hb9⟩ := nine _ w.heap.size HZB.out (.slice none 0 0) (.slice none 0 0) (.slice none 0 0) (.int .i64 0) (.int .i64 0) (.int .i64 0) (.int .i64 0) (.int .i64 0) (.int .i64 0)
  rw [hw9]
  clear hw9
  refine bodyPost_ret (v := .tuple #[.agg #[.slice none 0 0, .slice none 0 0, .slice none 0 0, .int .i64 0, .int .i64 0, .int .i64 0, .int .i64 0, .int .i64 0, .int .i64 0], .int .i64 1]) (results_row_tmp (fn := Tryz.f27) (p := 8) (ty := 75) rfl _ _ w.heap.size 75 _ (0, 0) _ rfl h9 Tryz.underlying75 rfl (by kernel_rfl)) rfl ?_
  exact ⟨rfl, hb9 _ _ HBW.out (Nat.le_refl _)⟩
end Go.Proofs.YtfnmlpnncjhnmaaGreat


/- term: months behind a month; all months from one to another; lists of numbers that are alike. -/
set_option linter.unusedVariables false
set_option linter.unusedSimpArgs false
namespace Go.Proofs.YtfnmlpnncjhnmaaGreat
open Go.RowKit Go.Maps Go.Deep

theorem mvalid_is (m : Int) {b : Bool} (h : monthOk m = b) (w : World) : Calls Tryz.prog 160 #[.int .i64 m] w fun e w' => e = .returned (.bool b) ∧ Below w.heap.size w w' := by
  have := month_valid m w
  rw [h] at this
  exact this
def spanL (f : Int) (n : Nat) : List Int := (List.range n).map (fun (k : Nat) => f + (k : Int))
theorem spanL_succ (f : Int) (n : Nat) : spanL f (n + 1) = spanL f n ++ [f + (n : Int)] := by
  unfold spanL
  rw [List.range_succ, List.map_append]
  rfl
theorem valid2' (x y : Int) (b : Nat) (W : World) (hb : W.heap[b]? = some (.cells #[.int .i64 x, .int .i64 y] 3 (0, 0))) (wx : I64 x) (wy : I64 y) (h1 : monthOk x = true) (h2 : monthOk y = true) :
    Calls Tryz.prog 113 #[.slice (some ⟨b, 0, none⟩) 2 2] W fun e w' => e = .returned (.bool true) ∧ Below W.heap.size W w' := by
  have := term_valid (some ⟨b, 0, none⟩) 2 [x, y] W (by simp) (sl_two x y b W hb wx wy)
  have e1 : [x, y].all monthOk = true := by simp [h1, h2]
  rw [e1] at this
  exact this

set_option maxHeartbeats 2000000 in
set_option maxRecDepth 100000 in
theorem sbInts_is (l : List Int) (a b : Option Addr) (ca cb : Nat) (w : World) {F G : Nat → Prop} (hs : Sl tInt w F a l) (ht : Sl tInt w G b l) (hl : l.length ≤ maxLen) :
    Calls Tryz.prog 28 #[.slice a l.length ca, .slice b l.length cb] w fun e w' => e = .returned (.bool true) ∧ Below w.heap.size w w' := by
  have HS := Lib.hid hs
  have HT := Lib.hid ht
  have hl' : l.length ≤ 9223372036854775807 := by unfold maxLen at hl; omega
  clear hs ht hl
  go_enter Tryz.func28, Tryz.ntmps28
  go_wp2_with fail
  go_loopw [5] (fun vi wr => ∃ n : Nat, n ≤ l.length ∧ vi = .int .i64 n ∧ Below w.heap.size w wr) (fun vi _ => l.length - (intOf vi).toNat)
  case atStart => exact ⟨0, Nat.zero_le _, rfl, Below.refl _ _⟩
  case round =>
    obtain ⟨n, hn, rfl, hb⟩ := hrel
    have HB := Lib.hid hb
    clear hb
    by_cases hlt : n < l.length
    · obtain ⟨ad, rfl, hadl, hc0⟩ := int_at (Sl.keep (fun k hk _ => HB.out.block k hk) HS.out) n hlt
      obtain ⟨bd, rfl, hbdl, hd0⟩ := int_at (Sl.keep (fun k hk _ => HB.out.block k hk) HT.out) n hlt
      go_wp2_with fail
      go_quiet (fail)
      go_wp2_with fail
      go_roundw
      case rel => exact ⟨n + 1, by omega, by go_num, below_drewN HB.out _⟩
      case measure => simp [intOf]; omega
    · go_wp2_with fail
      go_ret
      exact ⟨rfl, HB.out⟩
end Go.Proofs.YtfnmlpnncjhnmaaGreat


/- Copies of lists that were handed in; lists apart from each other. -/
set_option linter.unusedVariables false
set_option linter.unusedSimpArgs false
namespace Go.Proofs.YtfnmlpnncjhnmaaGreat
open Go.RowKit Go.Maps Go.Deep

/-- a list that is nil has no room -/
def Ty.sliceN {P : Program} {t e : TypeId} {α : Type} (h : P.underlying t = some (.slice e)) (hn : P.cellsOf t = 1) (T : Ty P e α) (hpos : 0 < T.n) : Ty P t (List α) where
  n := 1
  R := fun w F cs xs => (Ty.slice h hn T hpos).R w F cs xs ∧ ∀ n c, cs = [.slice none n c] → c = 0
  hn := hn
  len := fun h0 => (Ty.slice h hn T hpos).len h0.1
  keep := fun hb h0 => ⟨(Ty.slice h hn T hpos).keep hb h0.1, h0.2⟩
  mono := fun hb h0 => ⟨(Ty.slice h hn T hpos).mono hb h0.1, h0.2⟩
  of := by
    intro H enc w fuel cs d ps h1 h2
    obtain ⟨x, hx⟩ := (Ty.slice h hn T hpos).of h1 h2
    refine ⟨x, hx, ?_⟩
    intro n c he
    rcases open_slice h h1 with ⟨rfl, _⟩ | ⟨a, len, cap, m, n, D, Pl, rfl, _⟩
    · simp only [List.cons.injEq, Value.slice.injEq, and_true] at he
      exact he.2.2.symm
    · simp at he
def tBals : Ty Tryz.prog 32 (List (Int × Int)) := Ty.sliceN Tryz.underlying32 (by kernel_rfl) tBal (by decide)

theorem Sl.ofw {w w' : World} {a : Option Addr} {xs : List (Int × Int)} {F : Nat → Prop} {v : Value} (h : Sl tBal w F a xs) (hb : ∀ k, k < w.heap.size → w'.heap[k]? = w.heap[k]?) (hs : w.heap.size ≤ w'.heap.size) (hv : ∀ k, v.ownBlock = some k → w.heap.size ≤ k) :
    Sl tBal w' (fun k => some k ≠ v.ownBlock ∧ k < w'.heap.size) a xs := by
  intro i x hx
  obtain ⟨ad, ces, ha, _, hlt, hc, hr⟩ := h i x hx
  refine ⟨ad, ces, ha, ⟨fun e => by have := hv _ e.symm; omega, by omega⟩, by omega, fun j u hu => ?_, ?_⟩
  · rw [← hc j u hu]
    exact World.cell?_of_block (w := w) (by rw [add_block, add_block]; exact hb _ hlt)
  · obtain ⟨rfl, h1, h2⟩ := bal_inv hr
    exact bal_mk _ h1 h2

theorem LentB.sl {w : World} {base : Nat} {v : Value} {l : List (Int × Int)} (h : LentB w base v l) : ∃ g cap, v = .slice (some ⟨g, 0, none⟩) l.length cap ∧ Sl tBal w (fun _ => True) (some ⟨g, 0, none⟩) l := by
  obtain ⟨g, cap, h1, _, _, ho⟩ := h
  exact ⟨g, cap, h1, ho.sl.left⟩

set_option maxHeartbeats 2000000 in
set_option maxRecDepth 100000 in
theorem cpBal_sl (l : List (Int × Int)) (a : Option Addr) (cap : Nat) (w : World) {F : Nat → Prop} (hs : Sl tBal w F a l) (hl : l.length ≤ 100000) (hna : a = none → l = [] ∧ cap = 0) :
    Calls Tryz.prog 47 #[.slice a l.length cap] w fun e w' => ∃ v', e = .returned v' ∧ OwnL tBal w' w.heap.size v' l ∧ Below w.heap.size w w' := by
  obtain ⟨i0, hi, hz0, hz1, hz2⟩ := info_parts infoBal
  have HS : Hid (Sl tBal w (fun k => some k ≠ (Value.slice none 0 0).ownBlock ∧ k < w.heap.size) a l) := Lib.hid (Sl.ofw hs (fun _ _ => rfl) (Nat.le_refl _) (fun k e => by cases e))
  have HNA := Lib.hid hna
  have h63 : ([] : List (Int × Int)).length + l.length ≤ maxLen := by simp only [List.length_nil]; unfold maxLen; omega
  have hby : (([] : List (Int × Int)).length + l.length) * 16 ≤ 140737488355328 := by simp only [List.length_nil]; omega
  clear hs hna
  go_enter Tryz.func47, Tryz.ntmps47
  go_wp2_with (at_builtin; refine wp_appA (T := tBal) rfl _ _ 32 rfl i0 (.agg #[.int .i64 0, .int .i64 0]) 16 Tryz.underlying32 hi hz0 hz1 hz2 rfl (by decide) bal_one w.heap.size (.slice none 0 0) [] rfl (OwnL.nil _ _) a cap l rfl HNA.out HS.out h63 hby (Nat.le_refl _) ?_; intro v' w' hown hg hat; have HO := Lib.hid hown; have HB := Lib.hid (Below.grown (Below.refl w.heap.size w) hg (Nat.le_refl _) (fun k e => by cases e)); clear hown hg hat)
  go_ret
  exact ⟨v', rfl, by simpa using HO.out, HB.out⟩

/-- two lists of a call's own that share no block -/
def ApartV (u v : Value) : Prop := u.ownBlock = none ∨ u.ownBlock ≠ v.ownBlock
theorem ApartV.symm {u v : Value} (h : ApartV u v) : ApartV v u := by
  rcases h with h | h
  · cases hv : v.ownBlock with
    | none => exact .inl hv
    | some k => exact .inr (by rw [hv, h]; simp)
  · exact .inr (Ne.symm h)
theorem OwnL.apartB {w w' : World} {base : Nat} {v u : Value} {xs : List (Int × Int)} (h : OwnL tBal w base v xs) (hg : w.grownBy w' u.ownBlock) (hne : ApartV v u) : OwnL tBal w' base v xs := by
  obtain ⟨css, ⟨hr1, hr2⟩, hr3, hr4, hr5⟩ := h
  refine ⟨css, ⟨hr1, ?_⟩, hr3, hr4, fun i c y hi hy => ?_⟩
  · rcases hr2 with ⟨hn, h0⟩ | ⟨g, cap, cur, hg0, hbb, hc, rest⟩
    · exact .inl ⟨hn, h0⟩
    · refine .inr ⟨g, cap, cur, hg0, hbb, ((hg.block g (blk_lt hc) (fun e => ?_)).trans hc), rest⟩
      rcases hne with hne | hne
      · rw [hg0] at hne
        simp [Value.ownBlock] at hne
      · refine hne ?_
        rw [hg0]
        simpa [Value.ownBlock] using e
  · obtain ⟨rfl, h1, h2⟩ := bal_inv (hr5 i c y hi hy)
    exact bal_mk _ h1 h2
theorem ApartV.step {w : World} {base : Nat} {u v v' : Value} {xs : List (Int × Int)} (h : ApartV u v) (ho : OwnL tBal w base u xs) (hat : v'.ownBlock = v.ownBlock ∨ v'.ownBlock = some w.heap.size) : ApartV u v' := by
  rcases hat with e | e
  · unfold ApartV
    rw [e]
    exact h
  · right
    rw [e]
    intro he
    have := (ho.lt _ he).2
    omega
end Go.Proofs.YtfnmlpnncjhnmaaGreat
