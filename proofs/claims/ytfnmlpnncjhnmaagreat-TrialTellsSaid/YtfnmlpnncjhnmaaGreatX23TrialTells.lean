/- income.Of: the statement of balances. -/
import Derived.Test.YtfnmlpnncjhnmaaGreatX21TrialTells
import Derived.Test.YtfnmlpnncjhnmaaGreatX22TrialTells
import Derived.LoopN
set_option linter.unusedVariables false
set_option linter.unusedSimpArgs false
namespace Go.Proofs.YtfnmlpnncjhnmaaGreat
open Go.RowKit Go.Maps Go.Deep

def incI (r : List Ac) (l : List (Int × Int)) : List (Int × Int) := (l.filter (pickB r [4])).map negB
def incO (r : List Ac) (l : List (Int × Int)) : List (Int × Int) := l.filter (pickB r [5])
/-- earned, spent, left; the error -/
def incR (r : List Ac) (l : List (Int × Int)) : (Int × Int × Int) × Int :=
  let a := addM ((incI r l).map (·.2))
  let b := addM ((incO r l).map (·.2))
  let n := addM [a.1, -b.1]
  if a.2 != 0 then ((0, 0, 0), a.2) else if b.2 != 0 then ((0, 0, 0), b.2) else if n.2 != 0 then ((0, 0, 0), n.2) else ((a.1, b.1, n.1), 0)
def IncP (w : World) (r : List Ac) (l : List (Int × Int)) (t : (Int × Int × Int) × Int) (e : Ending) (w' : World) : Prop :=
  ∃ v1 v2, e = .returned (.tuple #[.agg #[v1, v2, .int .i64 t.1.1, .int .i64 t.1.2.1, .int .i64 t.1.2.2], .int .i64 t.2]) ∧
    (t.2 = 0 → OwnL tBal w' w.heap.size v1 (incI r l) ∧ OwnL tBal w' w.heap.size v2 (incO r l) ∧ (v1.ownBlock = none ∨ v1.ownBlock ≠ v2.ownBlock)) ∧ (t.2 ≠ 0 → v1 = .slice none 0 0 ∧ v2 = .slice none 0 0) ∧ Below w.heap.size w w'
theorem addM_fit (l : List Int) : fitsB (addM l).1 = true := by
  unfold addM
  split
  · unfold fitS
    split
    · assumption
    · rfl
  · rfl
theorem five (w : World) (b : Nat) {t : TypeId} {x0 x1 x2 x3 x4 : Value} (h : w.heap[b]? = some (.cells #[x0, x1, x2, x3, x4] t (0, 0))) (v0 v1 v2 v3 v4 : Value) :
    ∃ w4, (((((w.setCell ⟨b, 0, none⟩ v0).setCell ⟨b, 1, none⟩ v1).setCell ⟨b, 2, none⟩ v2).setCell ⟨b, 3, none⟩ v3).setCell ⟨b, 4, none⟩ v4) = w4 ∧ w4.heap[b]? = some (.cells #[v0, v1, v2, v3, v4] t (0, 0)) ∧ w4.heap.size = w.heap.size ∧
      (∀ k, k ≠ b → w4.heap[k]? = w.heap[k]?) ∧ (∀ B w0, Below B w0 w → B ≤ b → Below B w0 w4) := by
  refine ⟨_, rfl, ?_, by simp, fun k hk => ?_, fun B w0 hb hB => ?_⟩
  · have := blk_set (blk_set (blk_set (blk_set (blk_set h 0 v0) 1 v1) 2 v2) 3 v3) 4 v4
    simpa using this
  · iterate 5 (rw [Below.heap_setCell _ _ _ k hk])
  · iterate 5 (refine Below.setCell ?_ hB _)
    exact hb
theorem OwnL.slice' {w : World} {base : Nat} {a : Option Addr} {n c : Nat} {xs : List (Int × Int)} (h : OwnL tBal w base (.slice a n c) xs) : Sl tBal w (fun _ => True) a xs := by
  obtain ⟨a', c', he, _, _, hs⟩ := OwnL.slice h
  injection he with h1
  rw [h1]
  exact hs
theorem own_set {w w' : World} {base : Nat} {v : Value} {xs : List (Int × Int)} (h : OwnL tBal w base v xs) (hb : ∀ k, v.ownBlock = some k → w'.heap[k]? = w.heap[k]?) : OwnL tBal w' base v xs := by
  obtain ⟨css, h1, h2, h3, h4⟩ := h
  refine ⟨css, ⟨h1.1, ?_⟩, h2, h3, fun i c x hi hx => ?_⟩
  · rcases h1.2 with ⟨rfl, h0⟩ | ⟨g, cap, cur, rfl, hb', hc, hn, hm, hcs, ht⟩
    · exact .inl ⟨rfl, h0⟩
    · exact .inr ⟨g, cap, cur, rfl, hb', (hb g rfl).trans hc, hn, hm, hcs, ht⟩
  · obtain ⟨rfl, g1, g2⟩ := bal_inv (h4 i c x hi hx)
    exact bal_mk x g1 g2
theorem sl_one1 (x : Int) (b : Nat) (W : World) (hb : W.heap[b]? = some (.cells #[.int .i64 x] 3 (0, 0))) (h : I64 x) : Sl tInt W (fun _ => True) (some ⟨b, 0, none⟩) [x] := sl_oneI hb trivial h

set_option maxHeartbeats 8000000 in
set_option maxRecDepth 100000 in
theorem iOf_any {w : World} {g : Nat} {mb : Option Nat} {r : List Ac} (h : ChartAt w g mb r) (l : List (Int × Int)) (a : Option Addr) (cap : Nat) {F : Nat → Prop} (hs : Sl tBal w F a l) (hl : l.length ≤ 1000) (hfit : ∀ x ∈ l, fitsB x.2 = true) {t : (Int × Int × Int) × Int} (ht : incR r l = t) :
    Calls Tryz.prog 24 #[.pointer (some ⟨g, 0, none⟩), .slice a l.length cap] w (IncP w r l t) := by
  have hsf : ∀ (fn : Fn) (x y : Array Value) (ad : Addr) (m : Mode) (W : World), (store ad (.func fn x y) m).run Tryz.prog W = stored Tryz.prog W ad (.func fn x y) m := fun fn x y ad m W => run_store Tryz.prog W ad (.func fn x y) m rfl
  have HT := Lib.hid ht
  have HF := Lib.hid hfit
  clear ht hfit
  have hb1 := (Below.refl w.heap.size w).alloc (Nat.le_refl _) (.cells #[.slice none 0 0, .slice none 0 0, .int .i64 0, .int .i64 0, .int .i64 0] 62)
  have hb2 := hb1.alloc hb1.size (.cells #[.int .i64 4] 3)
  have HB2 := Lib.hid hb2
  have HZ2 := Lib.hid (blk_alloc (blk_new w (.cells #[.slice none 0 0, .slice none 0 0, .int .i64 0, .int .i64 0, .int .i64 0] 62)) (.cells #[.int .i64 4] 3))
  have HK2 := Lib.hid (sl_one1 4 (w.heap.size + 1) ((w.alloc (.cells #[.slice none 0 0, .slice none 0 0, .int .i64 0, .int .i64 0, .int .i64 0] 62)).alloc (.cells #[.int .i64 4] 3)) (by have := blk_new (w.alloc (.cells #[.slice none 0 0, .slice none 0 0, .int .i64 0, .int .i64 0, .int .i64 0] 62)) (.cells #[.int .i64 4] 3); simpa using this) (by decide))
  have HC := Lib.hid h
  have HS := Lib.hid hs
  clear h hs hb1 hb2
  have HP2 := Lib.hid (pick_any (HC.out.below HB2.out) l a cap [4] (some ⟨w.heap.size + 1, 0, none⟩) 1 (Sl.keep (fun k hk _ => HB2.out.block k hk) HS.out) hl HK2.out (by unfold maxLen; simp))
  go_enter Tryz.func24, Tryz.ntmps24
  go_wp2_with fail
  refine HP2.out.mono ?_
  rintro en w2 ⟨v, rfl, ho, hb⟩
  have hfl : (l.filter (pickB r [4])).length ≤ 1000 := Nat.le_trans (List.length_filter_le _ _) hl
  obtain ⟨oa, oc, rfl, _, _, hos⟩ := ho.slice
  have HOS := Lib.hid hos
  have HB3 := Lib.hid (belows_then HB2.out HB2.out.size hb)
  have HZ3 := Lib.hid (blk_below HZ2.out hb)
  clear ho hos hb
  go_wp2_with fail
  refine (iTurned_any _ oa oc w2 HOS.out hfl (fun x hx => HF.out x (List.mem_filter.1 hx).1)).mono ?_
  rintro en w3 ⟨v, rfl, ho, hb⟩
  have HO3 := Lib.hid (ho.mono HB3.out.size)
  have hb4 := belows_then HB3.out HB3.out.size hb
  have hb5 := hb4.alloc hb4.size (.cells #[.int .i64 5] 3)
  have HB5 := Lib.hid hb5
  have HZ5 := Lib.hid (blk_alloc (blk_below HZ3.out hb) (.cells #[.int .i64 5] 3))
  have HK5 := Lib.hid (sl_one1 5 w3.heap.size _ (blk_new w3 (.cells #[.int .i64 5] 3)) (by decide))
  have HO5 := Lib.hid (HO3.out.alloc (.cells #[.int .i64 5] 3))
  have HP5 := Lib.hid (pick_any (HC.out.below HB5.out) l a cap [5] (some ⟨w3.heap.size, 0, none⟩) 1 (Sl.keep (fun k hk _ => HB5.out.block k hk) HS.out) hl HK5.out (by unfold maxLen; simp))
  clear ho hb hb4 hb5 HO3 HB3 HZ3 HOS HB2 HZ2 HK2 HP2 HC HS
  obtain ⟨I, hI⟩ : ∃ I, (l.filter (pickB r [4])).map negB = I := ⟨_, rfl⟩
  have hIl : I.length ≤ 1000 := by rw [← hI, List.length_map]; exact hfl
  rw [hI] at HO5
  have HIE : Hid (I = incI r l) := Lib.hid hI.symm
  clear hI
  obtain ⟨ia, ic, rfl, hil, hic, _⟩ := HO5.out.slice
  go_wp2_with fail
  refine HP5.out.mono ?_
  rintro en w6 ⟨v, rfl, ho, hb⟩
  obtain ⟨O, hO⟩ : ∃ O, l.filter (pickB r [5]) = O := ⟨_, rfl⟩
  have hOl : O.length ≤ 1000 := by rw [← hO]; exact Nat.le_trans (List.length_filter_le _ _) hl
  rw [hO] at ho
  have HOE : Hid (O = incO r l) := Lib.hid hO.symm
  clear hO
  have HO6 := Lib.hid (HO5.out.below hb)
  have HQ6 := Lib.hid (ho.mono HB5.out.size)
  have HAQ : Hid ((Value.slice ia I.length ic).ownBlock = none ∨ (Value.slice ia I.length ic).ownBlock ≠ v.ownBlock) := Lib.hid (by
    cases h : (Value.slice ia I.length ic).ownBlock with
    | none => exact .inl rfl
    | some kk =>
      refine .inr (fun e => ?_)
      have h1 := (HO5.out.lt kk h).2
      have h2 := (ho.lt kk e.symm).1
      omega)
  have HB6 := Lib.hid (belows_then HB5.out HB5.out.size hb)
  have HZ6 := Lib.hid (blk_below HZ5.out hb)
  obtain ⟨qa, qc, rfl, hql, hqc, _⟩ := HQ6.out.slice
  clear ho hb HB5 HZ5 HK5 HO5 HP5
  go_wp2_with fail
  have hlt0 := blk_lt HZ6.out
  obtain ⟨B, hB⟩ : ∃ B, w6.heap.size = B := ⟨_, rfl⟩
  rw [hB] at hlt0 ⊢
  refine abs_world (S := (fun wx => wx.heap[B]? = some (.cells #[.slice ia I.length ic, .slice qa O.length qc, .int .i64 0, .int .i64 0, .int .i64 0] 62 (0, 0)) ∧ wx.heap[B + 1]? = some (.cells #[.pointer (some ⟨B, 2, none⟩), .func (.func 94) #[.slice ia I.length ic] #[], .pointer (some ⟨B, 3, none⟩), .func (.func 94) #[.slice qa O.length qc] #[], .pointer (some ⟨B, 4, none⟩), .func (.func 95) #[.pointer (some ⟨B, 0, none⟩)] #[]] 141 (0, 0)) ∧ wx.heap[w.heap.size]? = some (.cells #[.slice none 0 0, .slice none 0 0, .int .i64 0, .int .i64 0, .int .i64 0] 62 (0, 0)) ∧ OwnL tBal wx w.heap.size (.slice ia I.length ic) I ∧ OwnL tBal wx w.heap.size (.slice qa O.length qc) O ∧ Below w.heap.size w wx ∧ w.heap.size < B ∧ B + 1 < wx.heap.size)) ?_ ⟨?_, ?_, ?_, ?_, ?_, ?_, hlt0, ?_⟩
  rotate_left
  · subst hB
    exact blk_alloc (blk_new w6 _) _
  · subst hB
    have := blk_new (w6.alloc (.cells #[.slice ia I.length ic, .slice qa O.length qc, .int .i64 0, .int .i64 0, .int .i64 0] 62)) (.cells #[.pointer (some ⟨w6.heap.size, 2, none⟩), .func (.func 94) #[.slice ia I.length ic] #[], .pointer (some ⟨w6.heap.size, 3, none⟩), .func (.func 94) #[.slice qa O.length qc] #[], .pointer (some ⟨w6.heap.size, 4, none⟩), .func (.func 95) #[.pointer (some ⟨w6.heap.size, 0, none⟩)] #[]] 141)
    simpa using this
  · exact blk_alloc (blk_alloc HZ6.out _) _
  · exact (HO6.out.alloc _).alloc _
  · exact (HQ6.out.alloc _).alloc _
  · exact (HB6.out.alloc HB6.out.size _).alloc (by have := HB6.out.size; simp; omega) _
  · subst hB
    simp
  clear hB HO6 HQ6 HB6 HZ6 hlt0
  rintro wx ⟨hB, hT, hZ, hI, hO, hb, hwB, hBs⟩
  have HBB := Lib.hid hB
  have HTT := Lib.hid hT
  have HZZ := Lib.hid hZ
  have HII := Lib.hid hI
  have HOO := Lib.hid hO
  have HWW := Lib.hid hb
  have hcB := blk_cells hB
  have hfB := blk_frz hB
  have hcT := blk_cells hT
  have hcZ := blk_cells hZ
  have hfZ := blk_frz hZ
  clear hB hT hZ hI hO hb
  refine wp_loop_rounds 4 ?_
  rw [rounds_succ]
  go_wp2_with fail
  obtain ⟨a1, ea, ha⟩ : ∃ a1 ea, addM (I.map (·.2)) = (a1, ea) := ⟨_, _, rfl⟩
  have HA := Lib.hid ha
  have hfa : fitsB a1 = true := by have := addM_fit (I.map (·.2)); rw [ha] at this; exact this
  have hb7 := (Below.refl wx.heap.size wx).alloc (Nat.le_refl _) (.cells #[.pointer (some ⟨B, 2, none⟩), .func (.func 94) #[.slice ia I.length ic] #[]] 141)
  refine (iSum_any I ia ic _ (HII.out.below hb7).slice' (by omega) ha).mono ?_
  rintro en w7 ⟨rfl, hb⟩
  have HB7 := Lib.hid (belows_then hb7 hb7.size hb)
  have HC7 := Lib.hid (blk_below (blk_new wx (.cells #[.pointer (some ⟨B, 2, none⟩), .func (.func 94) #[.slice ia I.length ic] #[]] 141)) hb)
  have HBB7 := Lib.hid (blk_below HBB.out HB7.out)
  have HTT7 := Lib.hid (blk_below HTT.out HB7.out)
  have HZZ7 := Lib.hid (blk_below HZZ.out HB7.out)
  clear hb7 hb hcB hfB hcT hcZ hfZ
  have hcB := blk_cells HBB7.out
  have hfB := blk_frz HBB7.out
  have hlB := blk_lt HBB7.out
  have hcZ := blk_cells HZZ7.out
  have hfZ := blk_frz HZZ7.out
  have hlZ := blk_lt HZZ7.out
  have hcC := blk_cells HC7.out
  have hlC := blk_lt HC7.out
  have hne : ¬ wx.heap.size = B := by omega
  have hszs := HB7.out.size
  have hcs : ea = 0 ∨ ea = 2 := by have := addM_err (I.map (·.2)); rw [HA.out] at this; exact this
  clear ha
  rcases hcs with rfl | rfl
  rotate_left
  · skip
    go_wp2_with fail
    obtain ⟨w9, hw9, h9, hs9, hk9, hb9⟩ := five w7 w.heap.size HZZ7.out (.slice none 0 0) (.slice none 0 0) (.int .i64 0) (.int .i64 0) (.int .i64 0)
    rw [hw9]
    clear hw9
    refine bodyPost_ret (v := .tuple #[.agg #[.slice none 0 0, .slice none 0 0, .int .i64 0, .int .i64 0, .int .i64 0], .int .i64 2]) (results_row_tmp (fn := Tryz.f24) (p := 4) (ty := 62) rfl _ _ w.heap.size 62 _ (0, 0) _ rfl h9 Tryz.underlying62 rfl (by kernel_rfl)) rfl ?_
    have HTE : Hid (t = ((0, 0, 0), 2)) := Lib.hid (by rw [← HT.out]; unfold incR; rw [← HIE.out, ← HOE.out]; simp [HA.out])
    rw [HTE.out]
    exact ⟨_, _, rfl, fun h => absurd h (by decide), fun _ => ⟨rfl, rfl⟩, hb9 _ _ (HWW.out.trans (HB7.out.mono HWW.out.size)) (Nat.le_refl _)⟩
  go_wp2_with fail
  rw [rounds_succ]
  have hnI := (HII.out.below HB7.out).ne HBB7.out (by decide)
  have hnO := (HOO.out.below HB7.out).ne HBB7.out (by decide)
  refine abs_world (S := (fun wx => wx.heap[B]? = some (.cells #[.slice ia I.length ic, .slice qa O.length qc, .int .i64 a1, .int .i64 0, .int .i64 0] 62 (0, 0)) ∧ wx.heap[B + 1]? = some (.cells #[.pointer (some ⟨B, 2, none⟩), .func (.func 94) #[.slice ia I.length ic] #[], .pointer (some ⟨B, 3, none⟩), .func (.func 94) #[.slice qa O.length qc] #[], .pointer (some ⟨B, 4, none⟩), .func (.func 95) #[.pointer (some ⟨B, 0, none⟩)] #[]] 141 (0, 0)) ∧ wx.heap[w.heap.size]? = some (.cells #[.slice none 0 0, .slice none 0 0, .int .i64 0, .int .i64 0, .int .i64 0] 62 (0, 0)) ∧ OwnL tBal wx w.heap.size (.slice ia I.length ic) I ∧ OwnL tBal wx w.heap.size (.slice qa O.length qc) O ∧ Below w.heap.size w wx ∧ w.heap.size < B ∧ B + 1 < wx.heap.size)) ?_ ⟨by have := blk_set HBB7.out 2 (.int .i64 a1); simpa using this, blk_far HTT7.out (by simp) _, blk_far HZZ7.out (by show ¬ _ = B; omega) _, own_set (HII.out.below HB7.out) (fun k hk => Below.heap_setCell _ _ _ k (fun e => hnI (by rw [hk, e]))), own_set (HOO.out.below HB7.out) (fun k hk => Below.heap_setCell _ _ _ k (fun e => hnO (by rw [hk, e]))), (HWW.out.trans (HB7.out.mono HWW.out.size)).setCell (Nat.le_of_lt hwB) _, hwB, by simp; omega⟩
  clear HB7 HC7 HBB7 HTT7 HZZ7 hcB hfB hlB hcZ hfZ hlZ hcC hlC hne HBB HTT HZZ HII HOO HWW hnI hnO hBs hszs
  rintro wx ⟨hB, hT, hZ, hI, hO, hb, hwB, hBs⟩
  have HBB := Lib.hid hB
  have HTT := Lib.hid hT
  have HZZ := Lib.hid hZ
  have HII := Lib.hid hI
  have HOO := Lib.hid hO
  have HWW := Lib.hid hb
  have hcB := blk_cells hB
  have hfB := blk_frz hB
  have hcT := blk_cells hT
  have hcZ := blk_cells hZ
  have hfZ := blk_frz hZ
  clear hB hT hZ hI hO hb
  go_wp2_with fail
  obtain ⟨b1, eb, hbb⟩ : ∃ a1 ea, addM (O.map (·.2)) = (a1, ea) := ⟨_, _, rfl⟩
  have HBQ := Lib.hid hbb
  have hfb : fitsB b1 = true := by have := addM_fit (O.map (·.2)); rw [hbb] at this; exact this
  have hb7 := (Below.refl wx.heap.size wx).alloc (Nat.le_refl _) (.cells #[.pointer (some ⟨B, 3, none⟩), .func (.func 94) #[.slice qa O.length qc] #[]] 141)
  refine (iSum_any O qa qc _ (HOO.out.below hb7).slice' (by omega) hbb).mono ?_
  rintro en w7 ⟨rfl, hb⟩
  have HB7 := Lib.hid (belows_then hb7 hb7.size hb)
  have HC7 := Lib.hid (blk_below (blk_new wx (.cells #[.pointer (some ⟨B, 3, none⟩), .func (.func 94) #[.slice qa O.length qc] #[]] 141)) hb)
  have HBB7 := Lib.hid (blk_below HBB.out HB7.out)
  have HTT7 := Lib.hid (blk_below HTT.out HB7.out)
  have HZZ7 := Lib.hid (blk_below HZZ.out HB7.out)
  clear hb7 hb hcB hfB hcT hcZ hfZ
  have hcB := blk_cells HBB7.out
  have hfB := blk_frz HBB7.out
  have hlB := blk_lt HBB7.out
  have hcZ := blk_cells HZZ7.out
  have hfZ := blk_frz HZZ7.out
  have hlZ := blk_lt HZZ7.out
  have hcC := blk_cells HC7.out
  have hlC := blk_lt HC7.out
  have hne : ¬ wx.heap.size = B := by omega
  have hszs := HB7.out.size
  have hcs : eb = 0 ∨ eb = 2 := by have := addM_err (O.map (·.2)); rw [HBQ.out] at this; exact this
  clear hbb
  rcases hcs with rfl | rfl
  rotate_left
  · skip
    go_wp2_with fail
    obtain ⟨w9, hw9, h9, hs9, hk9, hb9⟩ := five w7 w.heap.size HZZ7.out (.slice none 0 0) (.slice none 0 0) (.int .i64 0) (.int .i64 0) (.int .i64 0)
    rw [hw9]
    clear hw9
    refine bodyPost_ret (v := .tuple #[.agg #[.slice none 0 0, .slice none 0 0, .int .i64 0, .int .i64 0, .int .i64 0], .int .i64 2]) (results_row_tmp (fn := Tryz.f24) (p := 4) (ty := 62) rfl _ _ w.heap.size 62 _ (0, 0) _ rfl h9 Tryz.underlying62 rfl (by kernel_rfl)) rfl ?_
    have HTE : Hid (t = ((0, 0, 0), 2)) := Lib.hid (by rw [← HT.out]; unfold incR; rw [← HIE.out, ← HOE.out]; simp [HA.out, HBQ.out])
    rw [HTE.out]
    exact ⟨_, _, rfl, fun h => absurd h (by decide), fun _ => ⟨rfl, rfl⟩, hb9 _ _ (HWW.out.trans (HB7.out.mono HWW.out.size)) (Nat.le_refl _)⟩
  go_wp2_with fail
  rw [rounds_succ]
  have hnI := (HII.out.below HB7.out).ne HBB7.out (by decide)
  have hnO := (HOO.out.below HB7.out).ne HBB7.out (by decide)
  refine abs_world (S := (fun wx => wx.heap[B]? = some (.cells #[.slice ia I.length ic, .slice qa O.length qc, .int .i64 a1, .int .i64 b1, .int .i64 0] 62 (0, 0)) ∧ wx.heap[B + 1]? = some (.cells #[.pointer (some ⟨B, 2, none⟩), .func (.func 94) #[.slice ia I.length ic] #[], .pointer (some ⟨B, 3, none⟩), .func (.func 94) #[.slice qa O.length qc] #[], .pointer (some ⟨B, 4, none⟩), .func (.func 95) #[.pointer (some ⟨B, 0, none⟩)] #[]] 141 (0, 0)) ∧ wx.heap[w.heap.size]? = some (.cells #[.slice none 0 0, .slice none 0 0, .int .i64 0, .int .i64 0, .int .i64 0] 62 (0, 0)) ∧ OwnL tBal wx w.heap.size (.slice ia I.length ic) I ∧ OwnL tBal wx w.heap.size (.slice qa O.length qc) O ∧ Below w.heap.size w wx ∧ w.heap.size < B ∧ B + 1 < wx.heap.size)) ?_ ⟨by have := blk_set HBB7.out 3 (.int .i64 b1); simpa using this, blk_far HTT7.out (by simp) _, blk_far HZZ7.out (by show ¬ _ = B; omega) _, own_set (HII.out.below HB7.out) (fun k hk => Below.heap_setCell _ _ _ k (fun e => hnI (by rw [hk, e]))), own_set (HOO.out.below HB7.out) (fun k hk => Below.heap_setCell _ _ _ k (fun e => hnO (by rw [hk, e]))), (HWW.out.trans (HB7.out.mono HWW.out.size)).setCell (Nat.le_of_lt hwB) _, hwB, by simp; omega⟩
  clear HB7 HC7 HBB7 HTT7 HZZ7 hcB hfB hlB hcZ hfZ hlZ hcC hlC hne HBB HTT HZZ HII HOO HWW hnI hnO hBs hszs
  rintro wx ⟨hB, hT, hZ, hI, hO, hb, hwB, hBs⟩
  have HBB := Lib.hid hB
  have HTT := Lib.hid hT
  have HZZ := Lib.hid hZ
  have HII := Lib.hid hI
  have HOO := Lib.hid hO
  have HWW := Lib.hid hb
  have hcB := blk_cells hB
  have hfB := blk_frz hB
  have hcT := blk_cells hT
  have hcZ := blk_cells hZ
  have hfZ := blk_frz hZ
  clear hB hT hZ hI hO hb
  go_wp2_with fail
  obtain ⟨n1, en1, hnn⟩ : ∃ a ea, addM [a1, -b1] = (a, ea) := ⟨_, _, rfl⟩
  have HNQ := Lib.hid hnn
  have hb7 := (Below.refl wx.heap.size wx).alloc (Nat.le_refl _) (.cells #[.pointer (some ⟨B, 4, none⟩), .func (.func 95) #[.pointer (some ⟨B, 0, none⟩)] #[]] 141)
  refine (iNet_any B _ _ a1 b1 0 _ (blk_alloc HBB.out _) hfa hfb hnn).mono ?_
  rintro en w7 ⟨rfl, hb⟩
  have HB7 := Lib.hid (belows_then hb7 hb7.size hb)
  have HC7 := Lib.hid (blk_below (blk_new wx (.cells #[.pointer (some ⟨B, 4, none⟩), .func (.func 95) #[.pointer (some ⟨B, 0, none⟩)] #[]] 141)) hb)
  have HBB7 := Lib.hid (blk_below HBB.out HB7.out)
  have HTT7 := Lib.hid (blk_below HTT.out HB7.out)
  have HZZ7 := Lib.hid (blk_below HZZ.out HB7.out)
  clear hb7 hb hcB hfB hcT hcZ hfZ
  have hcB := blk_cells HBB7.out
  have hfB := blk_frz HBB7.out
  have hlB := blk_lt HBB7.out
  have hcZ := blk_cells HZZ7.out
  have hfZ := blk_frz HZZ7.out
  have hlZ := blk_lt HZZ7.out
  have hcC := blk_cells HC7.out
  have hlC := blk_lt HC7.out
  have hne : ¬ wx.heap.size = B := by omega
  have hszs := HB7.out.size
  have hcs : en1 = 0 ∨ en1 = 2 := by have := addM_err [a1, -b1]; rw [HNQ.out] at this; exact this
  clear hnn
  rcases hcs with rfl | rfl
  rotate_left
  · skip
    go_wp2_with fail
    obtain ⟨w9, hw9, h9, hs9, hk9, hb9⟩ := five w7 w.heap.size HZZ7.out (.slice none 0 0) (.slice none 0 0) (.int .i64 0) (.int .i64 0) (.int .i64 0)
    rw [hw9]
    clear hw9
    refine bodyPost_ret (v := .tuple #[.agg #[.slice none 0 0, .slice none 0 0, .int .i64 0, .int .i64 0, .int .i64 0], .int .i64 2]) (results_row_tmp (fn := Tryz.f24) (p := 4) (ty := 62) rfl _ _ w.heap.size 62 _ (0, 0) _ rfl h9 Tryz.underlying62 rfl (by kernel_rfl)) rfl ?_
    have HTE : Hid (t = ((0, 0, 0), 2)) := Lib.hid (by rw [← HT.out]; unfold incR; rw [← HIE.out, ← HOE.out]; simp [HA.out, HBQ.out, HNQ.out])
    rw [HTE.out]
    exact ⟨_, _, rfl, fun h => absurd h (by decide), fun _ => ⟨rfl, rfl⟩, hb9 _ _ (HWW.out.trans (HB7.out.mono HWW.out.size)) (Nat.le_refl _)⟩
  go_wp2_with fail
  rw [rounds_succ]
  have hnI := (HII.out.below HB7.out).ne HBB7.out (by decide)
  have hnO := (HOO.out.below HB7.out).ne HBB7.out (by decide)
  refine abs_world (S := (fun wx => wx.heap[B]? = some (.cells #[.slice ia I.length ic, .slice qa O.length qc, .int .i64 a1, .int .i64 b1, .int .i64 n1] 62 (0, 0)) ∧ wx.heap[B + 1]? = some (.cells #[.pointer (some ⟨B, 2, none⟩), .func (.func 94) #[.slice ia I.length ic] #[], .pointer (some ⟨B, 3, none⟩), .func (.func 94) #[.slice qa O.length qc] #[], .pointer (some ⟨B, 4, none⟩), .func (.func 95) #[.pointer (some ⟨B, 0, none⟩)] #[]] 141 (0, 0)) ∧ wx.heap[w.heap.size]? = some (.cells #[.slice none 0 0, .slice none 0 0, .int .i64 0, .int .i64 0, .int .i64 0] 62 (0, 0)) ∧ OwnL tBal wx w.heap.size (.slice ia I.length ic) I ∧ OwnL tBal wx w.heap.size (.slice qa O.length qc) O ∧ Below w.heap.size w wx ∧ w.heap.size < B ∧ B + 1 < wx.heap.size)) ?_ ⟨by have := blk_set HBB7.out 4 (.int .i64 n1); simpa using this, blk_far HTT7.out (by simp) _, blk_far HZZ7.out (by show ¬ _ = B; omega) _, own_set (HII.out.below HB7.out) (fun k hk => Below.heap_setCell _ _ _ k (fun e => hnI (by rw [hk, e]))), own_set (HOO.out.below HB7.out) (fun k hk => Below.heap_setCell _ _ _ k (fun e => hnO (by rw [hk, e]))), (HWW.out.trans (HB7.out.mono HWW.out.size)).setCell (Nat.le_of_lt hwB) _, hwB, by simp; omega⟩
  clear HB7 HC7 HBB7 HTT7 HZZ7 hcB hfB hlB hcZ hfZ hlZ hcC hlC hne HBB HTT HZZ HII HOO HWW hnI hnO hBs hszs
  rintro wx ⟨hB, hT, hZ, hI, hO, hb, hwB, hBs⟩
  have HBB := Lib.hid hB
  have HTT := Lib.hid hT
  have HZZ := Lib.hid hZ
  have HII := Lib.hid hI
  have HOO := Lib.hid hO
  have HWW := Lib.hid hb
  have hcB := blk_cells hB
  have hfB := blk_frz hB
  have hcT := blk_cells hT
  have hcZ := blk_cells hZ
  have hfZ := blk_frz hZ
  clear hB hT hZ hI hO hb
  have hlZ := blk_lt HZZ.out
  have hlB := blk_lt HBB.out
  go_wp2_with fail
  obtain ⟨w9, hw9, h9, hs9, hk9, hb9⟩ := five wx w.heap.size HZZ.out (.slice ia I.length ic) (.slice qa O.length qc) (.int .i64 a1) (.int .i64 b1) (.int .i64 n1)
  rw [hw9]
  clear hw9
  refine bodyPost_ret (v := .tuple #[.agg #[.slice ia I.length ic, .slice qa O.length qc, .int .i64 a1, .int .i64 b1, .int .i64 n1], .int .i64 0]) (results_row_tmp (fn := Tryz.f24) (p := 4) (ty := 62) rfl _ _ w.heap.size 62 _ (0, 0) _ rfl h9 Tryz.underlying62 rfl (by kernel_rfl)) rfl ?_
  have HTE : Hid (t = ((a1, b1, n1), 0)) := Lib.hid (by rw [← HT.out]; unfold incR; rw [← HIE.out, ← HOE.out]; simp [HA.out, HBQ.out, HNQ.out])
  have hnI := HII.out.ne HZZ.out (by decide)
  have hnO := HOO.out.ne HZZ.out (by decide)
  rw [HTE.out]
  unfold IncP
  rw [← HIE.out, ← HOE.out]
  exact ⟨_, _, rfl, fun _ => ⟨own_set HII.out (fun k hk => hk9 k (fun e => hnI (by rw [hk, e]))), own_set HOO.out (fun k hk => hk9 k (fun e => hnO (by rw [hk, e]))), HAQ.out⟩, fun h => absurd rfl h, hb9 _ _ HWW.out (Nat.le_refl _)⟩
end Go.Proofs.YtfnmlpnncjhnmaaGreat
