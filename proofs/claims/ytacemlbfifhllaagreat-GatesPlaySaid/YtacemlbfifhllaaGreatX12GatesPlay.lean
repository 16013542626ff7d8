/- Contracts of Gates: put, drop, Set. -/
import Derived.Test.YtacemlbfifhllaaGreatX11GatesPlay
import Derived.Test.YtacemlbfifhllaaGreatX03GatesPlay
import Derived.StillTailTactics
import Derived.WalkSpells
set_option linter.unusedVariables false
set_option linter.unusedSimpArgs false
namespace Go.Proofs.YtacemlbfifhllaaGreat
open Go.RowKit Go.Maps

def gfp (g : Nat) (r : Option Nat) (k : Nat) : Prop := k = g ∨ r = some k

theorem GatesAt.ne {w : World} {g : Nat} {b : Nat} {l : Gs} (h : GatesAt w g (some b) l) : g ≠ b := by
  rintro rfl
  rcases h.map with ⟨h, _⟩ | ⟨b, e, hm⟩
  · cases h
  · injection e with e
    subst e
    obtain ⟨es, clock, h1, _⟩ := hm.ex
    rw [h.cell] at h1
    cases h1

def PutPost (w : World) (g : Nat) (r : Option Nat) (l' : Gs) (e : Ending) (w' : World) : Prop :=
  e = .returned (.tuple #[]) ∧ But (gfp g r) w w' ∧ ∃ r', GatesAt w' g r' l' ∧ (r' = r ∨ ∃ b, r' = some b ∧ w.heap.size ≤ b)

set_option maxHeartbeats 2000000 in
set_option maxRecDepth 100000 in
theorem put_some {w : World} {g b : Nat} {l : Gs} (h : GatesAt w g (some b) l) (e p s : Int) (he : I64 e) (hp : I64 p) :
    Calls Tryz.prog 18 #[.pointer (some ⟨g, 0, none⟩), .agg #[.int .i64 e, .int .i64 p], .int .i64 s] w (PutPost w g (some b) (ins l (e, p) s)) := by
  have H := Lib.hid h
  have HE := Lib.hid he
  have HP := Lib.hid hp
  have hg := blk_cells h.cell
  have hgl := blk_lt h.cell
  have hmap : MapIs mPlace (Value.int .i64) w b l := by
    rcases h.map with ⟨x, _⟩ | ⟨b', x, hm⟩
    · cases x
    · injection x with x; subst x; exact hm
  have HM := Lib.hid hmap
  clear h he hp hmap
  have hnil := fun W => run_eql_map_nil (P := Tryz.prog) W 25 _ _ (some b) Tryz.underlying25
  go_enter Tryz.func18, Tryz.ntmps18
  go_wp2_with fail
  have hk := blk_new w (.cells #[.int .i64 e, .int .i64 p] 62)
  refine still_tail 6 (by kernel_rfl) (by kernel_rfl) ?_
  simp only [List.take_succ_cons, List.take_zero, List.drop_succ_cons, List.drop_zero]
  repeat still_step
  try refine wpStill_nil ?_
  change wpList _ _ _ _ _ _
  have HMd : MapIs mPlace (Value.int .i64) (w.alloc (.cells #[.int .i64 e, .int .i64 p] 62)).drew b l := HM.out.keep (Below.heap_alloc w _ b HM.out.lt)
  refine wp_update rfl _ _ _ 25 rfl _ Tryz.underlying25 b l (e, p) s rfl rfl rfl HMd ⟨HE.out, HP.out⟩ ?_
  intro w2 hm2 ho2
  have hgb := H.out.ne
  have hcell := ho2.heap hgb
  have H2 : GatesAt w2 g (some b) (ins l (e, p) s) := ⟨hcell.trans (blk_alloc H.out.cell _), .inr ⟨b, rfl, hm2⟩⟩
  have HB : But (gfp g (some b)) w w2 := (((But.refl _ w).alloc _).drew).only ho2 (.inl (.inr rfl))
  have HF : PutPost w g (some b) (ins l (e, p) s) (.returned (.tuple #[])) w2 := ⟨rfl, HB, _, H2, .inl rfl⟩
  have HFF := Lib.hid HF
  clear HF HB H2 hcell hm2 ho2 HMd
  go_wp2_with fail
  go_end0
  exact HFF.out

set_option maxHeartbeats 2000000 in
set_option maxRecDepth 100000 in
theorem put_none {w : World} {g : Nat} (h : GatesAt w g none []) (e p s : Int) (he : I64 e) (hp : I64 p) :
    Calls Tryz.prog 18 #[.pointer (some ⟨g, 0, none⟩), .agg #[.int .i64 e, .int .i64 p], .int .i64 s] w (PutPost w g none [((e, p), s)]) := by
  have H := Lib.hid h
  have HE := Lib.hid he
  have HP := Lib.hid hp
  have hg := blk_cells h.cell
  have hgf := blk_frz h.cell
  have hgl := blk_lt h.cell
  clear h he hp
  have hnil := fun W => run_eql_map_nil (P := Tryz.prog) W 25 _ _ none Tryz.underlying25
  have hmm := @run_makeMap Tryz.prog
  have hk := blk_new w (.cells #[.int .i64 e, .int .i64 p] 62)
  go_enter Tryz.func18, Tryz.ntmps18
  go_wp2_with fail
  have hne : g ≠ w.heap.size := by omega
  refine abs_world (S := fun wx => wx.heap[w.heap.size]? = some (.cells #[.int .i64 e, .int .i64 p] 62 (0, 0)) ∧ wx.heap[g]? = some (.cells #[.map (some (w.heap.size + 1))] 27 (0, 0)) ∧ MapIs mPlace (Value.int .i64) wx (w.heap.size + 1) ([] : Gs) ∧ But (gfp g none) w wx) ?_
    ⟨blk_alloc (by have := blk_new (w.setCell { block := g, off := 0 } (Value.map (some (w.heap.size + 1)))) (.cells #[.int .i64 e, .int .i64 p] 62); simpa using this) _, blk_alloc (blk_alloc (blk_set H.out.cell 0 _) _) _,
      by have := MapIs.new mPlace (Value.int .i64) ((w.setCell { block := g, off := 0 } (Value.map (some (w.heap.size + 1)))).alloc (.cells #[.int .i64 e, .int .i64 p] 62)); simpa using this,
      (((But.refl _ w).setCell (p := ⟨g, 0, none⟩) (.inl (.inl rfl)) _).alloc _).alloc _⟩
  rintro wx ⟨hk1, hg1, hm1, HB1⟩
  clear hg hgf hk
  have hg := blk_cells hg1
  have hk := blk_cells hk1
  refine still_tail 6 (by kernel_rfl) (by kernel_rfl) ?_
  simp only [List.take_succ_cons, List.take_zero, List.drop_succ_cons, List.drop_zero]
  repeat still_step
  try refine wpStill_nil ?_
  change wpList _ _ _ _ _ _
  have HMd : MapIs mPlace (Value.int .i64) wx.drew (w.heap.size + 1) ([] : Gs) := hm1.keep rfl
  refine wp_update rfl _ _ _ 25 rfl _ Tryz.underlying25 (w.heap.size + 1) ([] : Gs) (e, p) s rfl rfl rfl HMd ⟨HE.out, HP.out⟩ ?_
  intro w2 hm2 ho2
  have hcell := ho2.heap (k := g) (by omega)
  have H2 : GatesAt w2 g (some (w.heap.size + 1)) [((e, p), s)] := ⟨hcell.trans hg1, .inr ⟨_, rfl, hm2⟩⟩
  have HB : But (gfp g none) w w2 := HB1.drew.only ho2 (.inr (by omega))
  have HF : PutPost w g none [((e, p), s)] (.returned (.tuple #[])) w2 := ⟨rfl, HB, _, H2, .inr ⟨_, rfl, by omega⟩⟩
  have HFF := Lib.hid HF
  clear HF HB H2 hcell hm2 ho2 HMd
  go_wp2_with fail
  go_end0
  exact HFF.out

set_option maxHeartbeats 2000000 in
set_option maxRecDepth 100000 in
theorem drop_some {w : World} {g b : Nat} {l : Gs} (h : GatesAt w g (some b) l) (e p s : Int) (he : I64 e) (hp : I64 p) :
    Calls Tryz.prog 19 #[.pointer (some ⟨g, 0, none⟩), .agg #[.int .i64 e, .int .i64 p], .int .i64 s] w (PutPost w g (some b) (del l (e, p))) := by
  have H := Lib.hid h
  have HE := Lib.hid he
  have HP := Lib.hid hp
  have hg := blk_cells h.cell
  have hgl := blk_lt h.cell
  have hmap : MapIs mPlace (Value.int .i64) w b l := by
    rcases h.map with ⟨x, _⟩ | ⟨b', x, hm⟩
    · cases x
    · injection x with x; subst x; exact hm
  have HM := Lib.hid hmap
  clear h he hp hmap
  go_enter Tryz.func19, Tryz.ntmps19
  go_wp2_with fail
  have hk := blk_new w (.cells #[.int .i64 e, .int .i64 p] 62)
  refine still_tail 5 (by kernel_rfl) (by kernel_rfl) ?_
  simp only [List.take_succ_cons, List.take_zero, List.drop_succ_cons, List.drop_zero]
  repeat still_step
  try refine wpStill_nil ?_
  change wpList _ _ _ _ _ _
  have HMd : MapIs mPlace (Value.int .i64) (w.alloc (.cells #[.int .i64 e, .int .i64 p] 62)).drew b l := HM.out.keep (Below.heap_alloc w _ b HM.out.lt)
  refine wp_delete rfl _ _ 25 rfl _ Tryz.underlying25 b l (e, p) rfl rfl HMd ⟨HE.out, HP.out⟩ ?_
  intro w2 hm2 ho2
  have hgb := H.out.ne
  have hcell := ho2.heap hgb
  have H2 : GatesAt w2 g (some b) (del l (e, p)) := ⟨hcell.trans (blk_alloc H.out.cell _), .inr ⟨b, rfl, hm2⟩⟩
  have HB : But (gfp g (some b)) w w2 := (((But.refl _ w).alloc _).drew).only ho2 (.inl (.inr rfl))
  have HF : PutPost w g (some b) (del l (e, p)) (.returned (.tuple #[])) w2 := ⟨rfl, HB, _, H2, .inl rfl⟩
  have HFF := Lib.hid HF
  clear HF HB H2 hcell hm2 ho2 HMd
  go_wp2_with fail
  go_end0
  exact HFF.out

set_option maxHeartbeats 2000000 in
set_option maxRecDepth 100000 in
theorem drop_none {w : World} {g : Nat} (h : GatesAt w g none []) (e p s : Int) (he : I64 e) (hp : I64 p) :
    Calls Tryz.prog 19 #[.pointer (some ⟨g, 0, none⟩), .agg #[.int .i64 e, .int .i64 p], .int .i64 s] w (PutPost w g none []) := by
  have H := Lib.hid h
  have HE := Lib.hid he
  have HP := Lib.hid hp
  have hg := blk_cells h.cell
  have hgl := blk_lt h.cell
  clear h he hp
  go_enter Tryz.func19, Tryz.ntmps19
  go_wp2_with fail
  have hk := blk_new w (.cells #[.int .i64 e, .int .i64 p] 62)
  refine still_tail 5 (by kernel_rfl) (by kernel_rfl) ?_
  simp only [List.take_succ_cons, List.take_zero, List.drop_succ_cons, List.drop_zero]
  repeat still_step
  try refine wpStill_nil ?_
  change wpList _ _ _ _ _ _
  refine wp_delete_nil mPlace rfl _ _ 25 rfl _ Tryz.underlying25 (e, p) rfl rfl ⟨HE.out, HP.out⟩ ?_
  have HF : PutPost w g none [] (.returned (.tuple #[])) (w.alloc (.cells #[.int .i64 e, .int .i64 p] 62)).drew := ⟨rfl, ((But.refl _ w).alloc _).drew, none, ⟨blk_alloc H.out.cell _, .inl ⟨rfl, rfl⟩⟩, .inl rfl⟩
  have HFF := Lib.hid HF
  clear HF
  go_wp2_with fail
  go_end0
  exact HFF.out

/-- put and drop, at whatever Gates -/
theorem put_any {w : World} {g : Nat} {r : Option Nat} {l : Gs} (h : GatesAt w g r l) (e p s : Int) (he : I64 e) (hp : I64 p) :
    Calls Tryz.prog 18 #[.pointer (some ⟨g, 0, none⟩), .agg #[.int .i64 e, .int .i64 p], .int .i64 s] w (PutPost w g r (ins l (e, p) s)) := by
  rcases h.map with ⟨rfl, rfl⟩ | ⟨b, rfl, hm⟩
  · exact put_none h e p s he hp
  · exact put_some h e p s he hp
theorem drop_any {w : World} {g : Nat} {r : Option Nat} {l : Gs} (h : GatesAt w g r l) (e p s : Int) (he : I64 e) (hp : I64 p) :
    Calls Tryz.prog 19 #[.pointer (some ⟨g, 0, none⟩), .agg #[.int .i64 e, .int .i64 p], .int .i64 s] w (PutPost w g r (del l (e, p))) := by
  rcases h.map with ⟨rfl, rfl⟩ | ⟨b, rfl, hm⟩
  · exact drop_none h e p s he hp
  · exact drop_some h e p s he hp

/-- what setting a state comes to: the states, and the error -/
def setL (l : Gs) (e p s : Int) : Gs := if s == 0 then del l (e, p) else ins l (e, p) s
def setE (l : Gs) (e p s : Int) : Int := if !placeOk e p || decide (s < 0) || decide (2 < s) then 1 else if !mayB (stateOf l e p) s then 11 else 0
def SetPost (w : World) (g : Nat) (r : Option Nat) (l : Gs) (e p s : Int) (en : Ending) (w' : World) : Prop :=
  en = .returned (.int .i64 (setE l e p s)) ∧ But (gfp g r) w w' ∧ ∃ r', GatesAt w' g r' (if setE l e p s = 0 then setL l e p s else l) ∧ (r' = r ∨ ∃ b, r' = some b ∧ w.heap.size ≤ b)

theorem set_err {w w1 : World} {g : Nat} {r : Option Nat} {l : Gs} {e p s x : Int} (h : GatesAt w1 g r l) (hB : But (gfp g r) w w1) (he : setE l e p s = x) (hx : x ≠ 0) : SetPost w g r l e p s (.returned (.int .i64 x)) w1 :=
  ⟨by rw [he], hB, r, by rw [if_neg (by rw [he]; exact hx)]; exact h, .inl rfl⟩

theorem set_ok {w w1 w2 : World} {g : Nat} {r r' : Option Nat} {l l' : Gs} {e p s : Int} (he : setE l e p s = 0) (h : GatesAt w2 g r' l') (hl : l' = setL l e p s) (hB : But (gfp g r) w w2) (hw : w.heap.size ≤ w1.heap.size) (hr : r' = r ∨ ∃ b, r' = some b ∧ w1.heap.size ≤ b) : SetPost w g r l e p s (.returned (.int .i64 0)) w2 :=
  ⟨by rw [he], hB, r', by rw [if_pos he, ← hl]; exact h, hr.imp id fun ⟨b, e, hb⟩ => ⟨b, e, Nat.le_trans hw hb⟩⟩

set_option maxHeartbeats 2000000 in
set_option maxRecDepth 100000 in
theorem set_any {w : World} {g : Nat} {r : Option Nat} {l : Gs} (h : GatesAt w g r l) (e p s : Int) (he : I64 e) (hp : I64 p) :
    Calls Tryz.prog 6 #[.pointer (some ⟨g, 0, none⟩), .int .i64 e, .int .i64 p, .int .i64 s] w (SetPost w g r l e p s) := by
  have H := Lib.hid h
  have HE := Lib.hid he
  have HP := Lib.hid hp
  clear h he hp
  go_enter Tryz.func6, Tryz.ntmps6
  go_wp2_with fail
  refine (there_any e p _ HP.out).mono ?_
  rintro e' w1 ⟨rfl, hb⟩
  have HB := Lib.hid (belows_then ((Below.refl w.heap.size w).alloc (Nat.le_refl _) _) (by simp) hb)
  have HG := Lib.hid (H.out.below HB.out)
  have hk := blk_below (blk_new w _) hb
  have hc := blk_cells hk
  have hg := blk_cells HG.out.cell
  have HK := Lib.hid hk
  clear hb hk
  cases hv : placeOk e p
  · have e1 : setE l e p s = 1 := by simp [setE, hv]
    have HF : SetPost w g r l e p s (.returned (.int .i64 1)) w1 := set_err HG.out (But.of_below HB.out _) e1 (by decide)
    have HFF := Lib.hid HF
    clear HF e1
    go_wp2_with fail
    go_ret
    exact HFF.out
  · by_cases hs : 0 ≤ s ∧ s ≤ 2
    · obtain ⟨hs0, hs2⟩ := hs
      have hs0' : ¬ s < 0 := by omega
      have hs2' : ¬ 2 < s := by omega
      have hlk : ∀ n, (Instr.lookup 25 (.map r) (.agg #[.int .i64 e, .int .i64 p]) false).run Tryz.prog (w1.drewN n) = .ok (.int .i64 (stateOf l e p)) (w1.drewN n) := fun n => (HG.out.drewN n).lookup HE.out HP.out
      generalize hq : stateOf l e p = q at hlk
      have HQ := Lib.hid hq
      clear hq
      go_wp2_with fail
      go_quiet ((go_at_call 17; exact Calls.quiet_of_same (may_any _ _ _)))
      cases hm : mayB q s
      · have e1 : setE l e p s = 11 := by simp [setE, hv, HQ.out, hm, hs0', hs2']
        have HF : ∀ n, SetPost w g r l e p s (.returned (.int .i64 11)) (w1.drewN n) := fun n => set_err (HG.out.drewN n) ((But.of_below HB.out _).drewN n) e1 (by decide)
        have HFF := Lib.hid HF
        clear HF e1
        go_wp2_with fail
        go_ret
        exact HFF.out _
      · have e1 : setE l e p s = 0 := by simp [setE, hv, HQ.out, hm, hs0', hs2']
        have E1 := Lib.hid e1
        clear e1
        by_cases h0 : s = 0
        · have h1 : (s == 0) = true := by simpa using h0
          have H1 := Lib.hid h1
          go_wp2_with fail
          refine (drop_any (HG.out.drewN _) e p _ HE.out HP.out).mono ?_
          rintro e2 w2 ⟨rfl, hB2, r', hG2, hr'⟩
          have HF : SetPost w g r l e p s (.returned (.int .i64 0)) w2 := set_ok E1.out hG2 (by simp [setL, h0]) (((But.of_below HB.out _).drewN _).trans hB2) (Nat.le_trans HB.out.size (Nat.le_refl _)) hr'
          have HFF := Lib.hid HF
          clear HF hB2 hG2 hr' h1
          go_wp2_with fail
          go_ret
          exact HFF.out
        · have h1 : (s == 0) = false := by simpa using h0
          have H1 := Lib.hid h1
          go_wp2_with fail
          refine (put_any (HG.out.drewN _) e p _ HE.out HP.out).mono ?_
          rintro e2 w2 ⟨rfl, hB2, r', hG2, hr'⟩
          have HF : SetPost w g r l e p s (.returned (.int .i64 0)) w2 := set_ok E1.out hG2 (by simp [setL, h0]) (((But.of_below HB.out _).drewN _).trans hB2) (Nat.le_trans HB.out.size (Nat.le_refl _)) hr'
          have HFF := Lib.hid HF
          clear HF hB2 hG2 hr' h1
          go_wp2_with fail
          go_ret
          exact HFF.out
    · have e1 : setE l e p s = 1 := by
        unfold setE
        rw [if_pos]
        simp only [Bool.or_eq_true, decide_eq_true_eq, Bool.not_eq_true']
        omega
      have HF : SetPost w g r l e p s (.returned (.int .i64 1)) w1 := set_err HG.out (But.of_below HB.out _) e1 (by decide)
      have HFF := Lib.hid HF
      clear HF e1
      by_cases hs0 : 0 ≤ s
      · have hs2 : 2 < s := by omega
        clear hs
        go_wp2_with fail
        go_ret
        exact HFF.out
      · clear hs
        go_wp2_with fail
        go_ret
        exact HFF.out
end Go.Proofs.YtacemlbfifhllaaGreat
