/- fx: Check, rate, Rate. -/
import Derived.Test.YtgggpaacagbmcaaGreatX19GroupInner
import Derived.Test.YtgggpaacagbmcaaGreatX21GroupInner
set_option linter.unusedVariables false
set_option linter.unusedSimpArgs false
namespace Go.Proofs.YtgggpaacagbmcaaGreat
open Go.RowKit Go.Maps Go.Deep

abbrev rtsV (x y z : Int) : Value := .agg #[.int .i64 x, .int .i64 y, .int .i64 z]
set_option maxRecDepth 100000 in
theorem closing_is (x y z : Int) (w : World) : Calls Tryz.prog 89 #[rtsV x y z] w fun e w' => e = .returned (.int .i64 x) ∧ Below w.heap.size w w' := by
  have HB := Lib.hid ((Below.refl w.heap.size w).alloc (Nat.le_refl _) (.cells #[.int .i64 x, .int .i64 y, .int .i64 z] 70))
  have hc := blk_cells (blk_new w (.cells #[.int .i64 x, .int .i64 y, .int .i64 z] 70))
  go_enter Tryz.func89, Tryz.ntmps89
  go_wp2_with fail
  go_ret
  exact ⟨rfl, HB.out⟩
set_option maxRecDepth 100000 in
theorem average_is (x y z : Int) (w : World) : Calls Tryz.prog 90 #[rtsV x y z] w fun e w' => e = .returned (.int .i64 y) ∧ Below w.heap.size w w' := by
  have HB := Lib.hid ((Below.refl w.heap.size w).alloc (Nat.le_refl _) (.cells #[.int .i64 x, .int .i64 y, .int .i64 z] 70))
  have hc := blk_cells (blk_new w (.cells #[.int .i64 x, .int .i64 y, .int .i64 z] 70))
  go_enter Tryz.func90, Tryz.ntmps90
  go_wp2_with fail
  go_ret
  exact ⟨rfl, HB.out⟩
set_option maxRecDepth 100000 in
theorem old_is (x y z : Int) (w : World) : Calls Tryz.prog 91 #[rtsV x y z] w fun e w' => e = .returned (.int .i64 z) ∧ Below w.heap.size w w' := by
  have HB := Lib.hid ((Below.refl w.heap.size w).alloc (Nat.le_refl _) (.cells #[.int .i64 x, .int .i64 y, .int .i64 z] 70))
  have hc := blk_cells (blk_new w (.cells #[.int .i64 x, .int .i64 y, .int .i64 z] 70))
  go_enter Tryz.func91, Tryz.ntmps91
  go_wp2_with fail
  go_ret
  exact ⟨rfl, HB.out⟩
def rtsE (x y z : Int) : Int := if rateB x && (rateB y && rateB z) then 0 else 1
def rateF (k : Int) : Nat := if k == 4 || k == 5 then 90 else if k == 3 then 91 else 89
set_option maxRecDepth 100000 in
theorem rate_is (k : Int) (w : World) : Calls Tryz.prog 162 #[.int .i64 k] w fun e w' => e = .returned (.func (.func (rateF k)) #[] #[]) ∧ w' = w := by
  unfold rateF
  by_cases h4 : k = 4
  · subst h4
    go_enter Tryz.func162, Tryz.ntmps162
    go_wp2_with fail
    go_ret
    exact ⟨rfl, rfl⟩
  · by_cases h5 : k = 5
    · subst h5
      go_enter Tryz.func162, Tryz.ntmps162
      go_wp2_with fail
      go_ret
      exact ⟨rfl, rfl⟩
    · by_cases h3 : k = 3
      · subst h3
        go_enter Tryz.func162, Tryz.ntmps162
        go_wp2_with fail
        go_ret
        exact ⟨rfl, rfl⟩
      · have e4 : (k == 4) = false := by simpa using h4
        have e5 : (k == 5) = false := by simpa using h5
        have e3 : (k == 3) = false := by simpa using h3
        rw [e4, e5, e3]
        go_enter Tryz.func162, Tryz.ntmps162
        go_wp2_with fail
        go_ret
        exact ⟨rfl, rfl⟩
set_option maxHeartbeats 4000000 in
set_option maxRecDepth 100000 in
theorem fxCheck_any (x y z : Int) (w : World) : Calls Tryz.prog 27 #[rtsV x y z] w fun e w' => e = .returned (.int .i64 (rtsE x y z)) ∧ Below w.heap.size w w' := by
  have HBX := Lib.hid (((Below.refl w.heap.size w).alloc (Nat.le_refl _) (.cells #[.int .i64 x, .int .i64 y, .int .i64 z] 70)))
  have HR := Lib.hid (blk_new w (.cells #[.int .i64 x, .int .i64 y, .int .i64 z] 70))
  have HC1 := Lib.hid (closing_is x y z)
  have HC2 := Lib.hid (average_is x y z)
  have HC3 := Lib.hid (old_is x y z)
  have hcx : x < 1 ∨ 1 ≤ x ∧ (1000000000 < x ∨ x ≤ 1000000000) := by omega
  have hcy : y < 1 ∨ 1 ≤ y ∧ (1000000000 < y ∨ y ≤ 1000000000) := by omega
  have hcz : z < 1 ∨ 1 ≤ z ∧ (1000000000 < z ∨ z ≤ 1000000000) := by omega
  generalize hE : rtsE x y z = er
  have HE1 : Hid (¬ ((1 ≤ x ∧ x ≤ 1000000000) ∧ (1 ≤ y ∧ y ≤ 1000000000) ∧ (1 ≤ z ∧ z ≤ 1000000000)) → er = 1) := Lib.hid (fun h => by rw [← hE]; unfold rtsE rateB; rw [if_neg (by simpa using h)])
  have HE0 : Hid (((1 ≤ x ∧ x ≤ 1000000000) ∧ (1 ≤ y ∧ y ≤ 1000000000) ∧ (1 ≤ z ∧ z ≤ 1000000000)) → er = 0) := Lib.hid (fun h => by rw [← hE]; unfold rtsE rateB; rw [if_pos (by simpa using h)])
  clear hE
  go_enter Tryz.func27, Tryz.ntmps27
  go_wp2_with fail
  refine abs_world (S := fun wx => wx.heap[w.heap.size]? = some (.cells #[.int .i64 x, .int .i64 y, .int .i64 z] 70 (0, 0)) ∧ wx.heap[w.heap.size + 1]? = some (.cells #[.func (.func 89) #[] #[], .func (.func 90) #[] #[], .func (.func 91) #[] #[]] 144 (0, 0)) ∧ Below w.heap.size w wx) ?_ ⟨?_, ?_, ?_⟩
  rotate_left
  · exact blk_alloc HR.out _
  · have := blk_new (w.alloc (.cells #[.int .i64 x, .int .i64 y, .int .i64 z] 70)) (.cells #[.func (.func 89) #[] #[], .func (.func 90) #[] #[], .func (.func 91) #[] #[]] 144)
    simpa using this
  · exact HBX.out.alloc (by simp) _
  rintro wx ⟨hr, ht, hb⟩
  have HR0 := Lib.hid hr
  have HT0 := Lib.hid ht
  have HB0 := Lib.hid hb
  clear hr ht hb HR HBX
  have hct := blk_cells HT0.out
  have hcr := blk_cells HR0.out
  refine wp_loop_rounds 4 ?_
  rw [rounds_succ]
  go_wp2_with fail
  refine (HC1.out _).mono ?_
  rintro en w1 ⟨rfl, hb⟩
  have HT1 := Lib.hid (blk_below HT0.out hb)
  have HR1 := Lib.hid (blk_below HR0.out hb)
  have HB1 := Lib.hid (belows_then HB0.out HB0.out.size hb)
  clear hb hct hcr
  have hct := blk_cells HT1.out
  have hcr := blk_cells HR1.out
  rcases hcx with hv | ⟨hv, hv2⟩
  · have HG := Lib.hid (HE1.out (by omega))
    go_wp2_with fail
    go_ret
    exact ⟨by rw [HG.out]; rfl, HB1.out⟩
  rcases hv2 with hv2 | hv2
  · have HG := Lib.hid (HE1.out (by omega))
    go_wp2_with fail
    go_ret
    exact ⟨by rw [HG.out]; rfl, HB1.out⟩
  have HV1 := Lib.hid (show 1 ≤ x ∧ x ≤ 1000000000 from ⟨hv, hv2⟩)
  go_wp2_with fail
  clear hv hv2
  rw [rounds_succ]
  go_wp2_with fail
  refine (HC2.out _).mono ?_
  rintro en w2 ⟨rfl, hb⟩
  have HT2 := Lib.hid (blk_below HT1.out hb)
  have HR2 := Lib.hid (blk_below HR1.out hb)
  have HB2 := Lib.hid (belows_then HB1.out HB1.out.size hb)
  clear hb hct hcr
  have hct := blk_cells HT2.out
  have hcr := blk_cells HR2.out
  rcases hcy with hv | ⟨hv, hv2⟩
  · have HG := Lib.hid (HE1.out (by omega))
    go_wp2_with fail
    go_ret
    exact ⟨by rw [HG.out]; rfl, HB2.out⟩
  rcases hv2 with hv2 | hv2
  · have HG := Lib.hid (HE1.out (by omega))
    go_wp2_with fail
    go_ret
    exact ⟨by rw [HG.out]; rfl, HB2.out⟩
  have HV2 := Lib.hid (show 1 ≤ y ∧ y ≤ 1000000000 from ⟨hv, hv2⟩)
  go_wp2_with fail
  clear hv hv2
  rw [rounds_succ]
  go_wp2_with fail
  refine (HC3.out _).mono ?_
  rintro en w3 ⟨rfl, hb⟩
  have HT3 := Lib.hid (blk_below HT2.out hb)
  have HR3 := Lib.hid (blk_below HR2.out hb)
  have HB3 := Lib.hid (belows_then HB2.out HB2.out.size hb)
  clear hb hct hcr
  have hct := blk_cells HT3.out
  have hcr := blk_cells HR3.out
  rcases hcz with hv | ⟨hv, hv2⟩
  · have HG := Lib.hid (HE1.out (by omega))
    go_wp2_with fail
    go_ret
    exact ⟨by rw [HG.out]; rfl, HB3.out⟩
  rcases hv2 with hv2 | hv2
  · have HG := Lib.hid (HE1.out (by omega))
    go_wp2_with fail
    go_ret
    exact ⟨by rw [HG.out]; rfl, HB3.out⟩
  have HV3 := Lib.hid (show 1 ≤ z ∧ z ≤ 1000000000 from ⟨hv, hv2⟩)
  go_wp2_with fail
  clear hv hv2
  rw [rounds_succ]
  go_wp2_with fail
  go_ret
  exact ⟨by rw [HE0.out ⟨HV1.out, HV2.out, HV3.out⟩]; rfl, HB3.out⟩
theorem rateF_is (x y z k : Int) (w : World) : Calls Tryz.prog (rateF k) #[rtsV x y z] w fun e w' => e = .returned (.int .i64 (if k == 4 || k == 5 then y else if k == 3 then z else x)) ∧ Below w.heap.size w w' := by
  unfold rateF
  by_cases h : (k == 4 || k == 5) = true
  · rw [if_pos h, if_pos h]
    exact average_is x y z w
  · rw [if_neg h, if_neg h]
    by_cases h3 : (k == 3) = true
    · rw [if_pos h3, if_pos h3]
      exact old_is x y z w
    · rw [if_neg h3, if_neg h3]
      exact closing_is x y z w
set_option maxHeartbeats 4000000 in
set_option maxRecDepth 100000 in
theorem fxRate_any (x y z k : Int) (w : World) : Calls Tryz.prog 136 #[rtsV x y z, .int .i64 k] w fun e w' => e = .returned (.int .i64 (if k == 4 || k == 5 then y else if k == 3 then z else x)) ∧ Below w.heap.size w w' := by
  have HC := Lib.hid (rateF_is x y z k)
  have HRT := Lib.hid (rate_is k)
  have hF : rateF k = 89 ∨ rateF k = 90 ∨ rateF k = 91 := by
    unfold rateF
    split
    · exact .inr (.inl rfl)
    · split
      · exact .inr (.inr rfl)
      · exact .inl rfl
  generalize rateF k = F at HC HRT hF
  generalize (if k == 4 || k == 5 then y else if k == 3 then z else x) = v at HC ⊢
  rcases hF with rfl | rfl | rfl
  all_goals
    go_enter Tryz.func136, Tryz.ntmps136
    go_wp2_with fail
    refine abs_world (S := fun wx => wx.heap[w.heap.size]? = some (.cells #[.int .i64 x, .int .i64 y, .int .i64 z] 70 (0, 0)) ∧ Below w.heap.size w wx) ?_ ⟨blk_new w _, (Below.refl w.heap.size w).alloc (Nat.le_refl _) _⟩
    rintro wx ⟨hx, hbx⟩
    have HX := Lib.hid hx
    have HBX := Lib.hid hbx
    clear hx hbx
    generalize w.heap.size = b at HX ⊢
    have hS : SM wx wx := Below.refl _ _
    have KS : Hid (∀ W, SM wx W → (W.cell? ⟨b, 0, none⟩ = some (.int .i64 x) ∧ W.cell? ⟨b, 1, none⟩ = some (.int .i64 y) ∧ W.cell? ⟨b, 2, none⟩ = some (.int .i64 z))) := Lib.hid (fun W h => ⟨SM.at' HX.out h 0 rfl, SM.at' HX.out h 1 rfl, SM.at' HX.out h 2 rfl⟩)
    go_region_held3 (fun w' => w'.cell? ⟨b, 0, none⟩ = some (.int .i64 x) ∧ w'.cell? ⟨b, 1, none⟩ = some (.int .i64 y) ∧ w'.cell? ⟨b, 2, none⟩ = some (.int .i64 z)) (first | with_reducible exact KS.out _ HB1.out | with_reducible exact KS.out _ (SM.drew hS)) (first | (refine (HRT.out _).mono ?_; rintro en w1 ⟨rfl, rfl⟩) | (refine (HC.out _).mono ?_; rintro en w1 ⟨rfl, hb⟩; have HB1 : Hid (SM wx w1) := Lib.hid (SM.call (SM.drew hS) hb); clear hb))
    go_wp2_with fail
    go_ret
    exact ⟨rfl, belows_then HBX.out HBX.out.size HB1.out⟩
end Go.Proofs.YtgggpaacagbmcaaGreat


/- Members of a group: how they lie in memory; group.Check. -/
set_option linter.unusedVariables false
set_option linter.unusedSimpArgs false
namespace Go.Proofs.YtgggpaacagbmcaaGreat
open Go.RowKit Go.Maps Go.Deep

def fRt : Flds Tryz.prog [fld "Closing" 3 0 0, fld "Average" 3 1 8, fld "Old" 3 2 16] 0 (Int × Int × Int × Unit) :=
  Flds.cons (f := fld "Closing" 3 0 0) tInt rfl (Flds.cons (f := fld "Average" 3 1 8) tInt rfl (Flds.cons (f := fld "Old" 3 2 16) tInt rfl (Flds.nil _ _)))
def tRt : Ty Tryz.prog 70 (Int × Int × Int × Unit) := Ty.struct Tryz.underlying70 fRt (by kernel_rfl)
def fMb : Flds Tryz.prog [fld "Entity" 3 0 0, fld "Share" 3 1 8, fld "Rates" 70 2 16] 0 (Int × Int × (Int × Int × Int × Unit) × Unit) :=
  Flds.cons (f := fld "Entity" 3 0 0) tInt rfl (Flds.cons (f := fld "Share" 3 1 8) tInt rfl (Flds.cons (f := fld "Rates" 70 2 16) tRt rfl (Flds.nil _ _)))
def Mb.mk' (x : Int × Int × (Int × Int × Int × Unit) × Unit) : Mb := ⟨x.1, x.2.1, x.2.2.1.1, x.2.2.1.2.1, x.2.2.1.2.2.1⟩
def tMb : Ty Tryz.prog 72 Mb := (Ty.struct Tryz.underlying72 fMb (by kernel_rfl)).map Mb.mk'
def tMbs : Ty Tryz.prog 24 (List Mb) := Ty.slice Tryz.underlying24 (by kernel_rfl) tMb (by decide)
theorem tMb_n : tMb.n = 5 := rfl
def Mb.wf (m : Mb) : Prop := I64 m.en ∧ I64 m.sh ∧ I64 m.cl ∧ I64 m.av ∧ I64 m.ol
abbrev mbC (m : Mb) : List Value := [.int .i64 m.en, .int .i64 m.sh, .int .i64 m.cl, .int .i64 m.av, .int .i64 m.ol]
theorem mb_inv {w : World} {F : Nat → Prop} {cs : List Value} {m : Mb} (h : tMb.R w F cs m) : cs = mbC m ∧ m.wf := by
  obtain ⟨x, rfl, c1, c2, rfl, ⟨rfl, h1⟩, c3, c4, rfl, ⟨rfl, h2⟩, c5, c6, rfl, ⟨c7, c8, rfl, ⟨rfl, h3⟩, c9, c10, rfl, ⟨rfl, h4⟩, c11, c12, rfl, ⟨rfl, h5⟩, rfl⟩, rfl⟩ := h
  exact ⟨rfl, h1, h2, h3, h4, h5⟩
theorem mb_mk {w : World} {F : Nat → Prop} (m : Mb) (h : m.wf) : tMb.R w F (mbC m) m :=
  ⟨(m.en, m.sh, (m.cl, m.av, m.ol, ()), ()), rfl, [_], [_, _, _, _], rfl, ⟨rfl, h.1⟩, [_], [_, _, _], rfl, ⟨rfl, h.2.1⟩, [_, _, _], [], rfl, ⟨[_], [_, _], rfl, ⟨rfl, h.2.2.1⟩, [_], [_], rfl, ⟨rfl, h.2.2.2.1⟩, [_], [], rfl, ⟨rfl, h.2.2.2.2⟩, rfl⟩, rfl⟩
theorem mb_at {w : World} {F : Nat → Prop} {a : Option Addr} {l : List Mb} (h : Sl tMb w F a l) (i : Nat) (hi : i < l.length) :
    ∃ ad, a = some ad ∧ F ad.block ∧ ad.block < w.heap.size ∧ w.cell? (ad.add (i * 5)) = some (.int .i64 l[i].en) ∧ w.cell? ⟨(ad.add (i * 5)).block, (ad.add (i * 5)).off + 1, none⟩ = some (.int .i64 l[i].sh) ∧
      w.cell? ⟨(ad.add (i * 5)).block, (ad.add (i * 5)).off + 2, none⟩ = some (.int .i64 l[i].cl) ∧ w.cell? ⟨(ad.add (i * 5)).block, (ad.add (i * 5)).off + 3, none⟩ = some (.int .i64 l[i].av) ∧
      w.cell? ⟨(ad.add (i * 5)).block, (ad.add (i * 5)).off + 4, none⟩ = some (.int .i64 l[i].ol) ∧ l[i].wf := by
  obtain ⟨ad, ces, rfl, hf, hlt, hc, hr⟩ := h i l[i] (List.getElem?_eq_getElem hi)
  obtain ⟨rfl, h1⟩ := mb_inv hr
  rw [tMb_n] at hc
  refine ⟨ad, rfl, hf, hlt, ?_, ?_, ?_, ?_, ?_, h1⟩
  · have := hc 0 _ rfl
    simpa [Addr.add] using this
  · have := hc 1 _ rfl
    rw [Addr.add] at this
    simpa using this
  · have := hc 2 _ rfl
    rw [Addr.add] at this
    simpa using this
  · have := hc 3 _ rfl
    rw [Addr.add] at this
    simpa using this
  · have := hc 4 _ rfl
    rw [Addr.add] at this
    simpa using this
abbrev mbv (m : Mb) : Value := .agg #[.int .i64 m.en, .int .i64 m.sh, .int .i64 m.cl, .int .i64 m.av, .int .i64 m.ol]

/-- may a member be, behind one of that number? -/
def okM (last : Int) (m : Mb) : Bool := decide (last < m.en) && (decide (m.en ≤ 9) && (decide (0 ≤ m.sh) && (decide (m.sh ≤ 10000) && mbB m)))
def gck : Int → List Mb → Bool
  | _, [] => true
  | last, m :: r => okM last m && gck m.en r
def grpB (ms : List Mb) : Bool := decide (1 ≤ ms.length) && (decide (ms.length ≤ 9) && gck 0 ms)
def lastE : Int → List Mb → Int
  | last, [] => last
  | _, m :: r => lastE m.en r
theorem lastE_snoc : ∀ (ms : List Mb) (last : Int) (m : Mb), lastE last (ms ++ [m]) = m.en
  | [], _, _ => rfl
  | x :: r, _, m => lastE_snoc r x.en m
theorem gck_app : ∀ (xs ys : List Mb) (last : Int), gck last (xs ++ ys) = (gck last xs && gck (lastE last xs) ys)
  | [], _, _ => rfl
  | x :: r, ys, last => by
    show (okM last x && gck x.en (r ++ ys)) = _
    rw [gck_app r ys x.en]
    show _ = ((okM last x && gck x.en r) && gck (lastE x.en r) ys)
    rw [Bool.and_assoc]
theorem gck_succ (l : List Mb) (n : Nat) (hn : n < l.length) : gck 0 (l.take (n + 1)) = (gck 0 (l.take n) && okM (lastE 0 (l.take n)) l[n]) := by
  rw [List.take_succ_eq_append_getElem hn, gck_app]
  simp [gck]
theorem lastE_succ (l : List Mb) (n : Nat) (hn : n < l.length) : lastE 0 (l.take (n + 1)) = l[n].en := by
  rw [List.take_succ_eq_append_getElem hn, lastE_snoc]
theorem gck_no (l : List Mb) (n : Nat) (hn : n < l.length) (h : okM (lastE 0 (l.take n)) l[n] = false) : gck 0 l = false := by
  have e : l = l.take n ++ l.drop n := (List.take_append_drop n l).symm
  rw [e, gck_app, List.drop_eq_getElem_cons hn]
  simp only [gck]
  rw [h]
  simp
theorem okM_cases {last : Int} {m : Mb} {b : Bool} (h : okM last m = b) : (b = false ∧ (m.en ≤ last ∨ last < m.en ∧ (9 < m.en ∨ m.en ≤ 9 ∧ (m.sh < 0 ∨ 0 ≤ m.sh ∧ (10000 < m.sh ∨ m.sh ≤ 10000 ∧ mbB m = false))))) ∨
    (b = true ∧ last < m.en ∧ m.en ≤ 9 ∧ 0 ≤ m.sh ∧ m.sh ≤ 10000 ∧ mbB m = true) := by
  subst h
  unfold okM
  cases mbB m <;> by_cases h1 : last < m.en <;> by_cases h2 : m.en ≤ 9 <;> by_cases h3 : 0 ≤ m.sh <;> by_cases h4 : m.sh ≤ 10000 <;> simp [h1, h2, h3, h4] <;> omega
theorem rtsE_mb (m : Mb) : rtsE m.cl m.av m.ol = if mbB m then 0 else 1 := rfl
set_option maxHeartbeats 4000000 in
set_option maxRecDepth 100000 in
theorem grCheck_any (l : List Mb) (a : Option Addr) (cap : Nat) (w : World) {F : Nat → Prop} (hs : Sl tMb w F a l) (hl : l.length ≤ maxLen) :
    Calls Tryz.prog 11 #[.slice a l.length cap] w fun e w' => e = .returned (.int .i64 (if grpB l then 0 else 1)) ∧ Below w.heap.size w w' := by
  have HS := Lib.hid hs
  have hl' : l.length ≤ 9223372036854775807 := by unfold maxLen at hl; omega
  clear hs hl
  generalize hE : (if grpB l then (0 : Int) else 1) = er
  have HE := Lib.hid hE
  clear hE
  rcases (show l.length < 1 ∨ 1 ≤ l.length ∧ (9 < l.length ∨ l.length ≤ 9) by omega) with h | ⟨h, h2 | h2⟩
  · have HR : Hid (er = 1) := Lib.hid (by rw [← HE.out]; unfold grpB; rw [show decide (1 ≤ l.length) = false by simpa using h]; rfl)
    go_enter Tryz.func11, Tryz.ntmps11
    go_wp2_with fail
    go_ret
    rw [HR.out]
    exact ⟨rfl, Below.refl _ _⟩
  · have HR : Hid (er = 1) := Lib.hid (by rw [← HE.out]; unfold grpB; rw [show decide (l.length ≤ 9) = false by simpa using h2]; simp)
    go_enter Tryz.func11, Tryz.ntmps11
    go_wp2_with fail
    go_ret
    rw [HR.out]
    exact ⟨rfl, Below.refl _ _⟩
  · have HG : Hid (er = if gck 0 l then 0 else 1) := Lib.hid (by rw [← HE.out]; unfold grpB; rw [show decide (1 ≤ l.length) = true by simpa using h, show decide (l.length ≤ 9) = true by simpa using h2]; rfl)
    go_enter Tryz.func11, Tryz.ntmps11
    go_wp2_with fail
    go_loopw [3, 16] (fun vl vi wr => ∃ n : Nat, n ≤ l.length ∧ vl = .int .i64 (lastE 0 (l.take n)) ∧ vi = .int .i64 n ∧ Hid (gck 0 (l.take n) = true) ∧ Below w.heap.size w wr) (fun _ vi _ => l.length - (Go.RowKit.intOf vi).toNat)
    case atStart => exact ⟨0, Nat.zero_le _, rfl, rfl, Lib.hid rfl, Below.refl _ _⟩
    case round =>
      obtain ⟨n, hn, rfl, rfl, hok, hb⟩ := hrel
      have HB := Lib.hid hb
      clear hb
      by_cases hlt : n < l.length
      · obtain ⟨ad, rfl, _, hadl, hc0, hc1, hc2, hc3, hc4, _⟩ := mb_at (Sl.keep (fun k hk _ => HB.out.block k hk) HS.out) n hlt
        have HSU := Lib.hid (gck_succ l n hlt)
        have HLA := Lib.hid (lastE_succ l n hlt)
        have HNO := Lib.hid (gck_no l n hlt)
        generalize l[n] = m at *
        generalize lastE 0 (l.take n) = la at *
        obtain ⟨en, sh, cl, av, ol⟩ := m
        simp only at hc0 hc1 hc2 hc3 hc4
        have HZ := Lib.hid (blk_new wr (.cells #[.int .i64 en, .int .i64 sh, .int .i64 cl, .int .i64 av, .int .i64 ol] 72))
        have HW := Lib.hid (HB.out.alloc HB.out.size (.cells #[.int .i64 en, .int .i64 sh, .int .i64 cl, .int .i64 av, .int .i64 ol] 72))
        have HK := Lib.hid (fun W => by
          have := fxCheck_any cl av ol W
          rw [rtsE_mb ⟨en, sh, cl, av, ol⟩] at this
          exact this)
        cases hv : okM la ⟨en, sh, cl, av, ol⟩
        · have HR : Hid (er = 1) := Lib.hid (by rw [HG.out, HNO.out hv]; rfl)
          obtain ⟨_, hcs⟩ := (okM_cases hv).resolve_right (fun h => by cases h.1)
          simp only at hcs
          clear hv
          rcases hcs with h1 | ⟨h1, h3 | ⟨h3, h4 | ⟨h4, h5 | ⟨h5, h6⟩⟩⟩⟩
          iterate 4
            · skip
              go_wp2_with fail
              go_ret
              rw [HR.out]
              exact ⟨rfl, HW.out⟩
          · rw [h6] at HK
            clear h6
            go_wp2_with fail
            refine (HK.out _).mono ?_
            rintro en2 w2 ⟨rfl, hb⟩
            have HB2 := Lib.hid (belows_then HW.out HW.out.size hb)
            clear hb
            go_wp2_with fail
            go_ret
            rw [HR.out]
            exact ⟨rfl, HB2.out⟩
        · obtain ⟨_, h1, h3, h4, h5, h6⟩ := (okM_cases hv).resolve_left (fun h => by cases h.1)
          simp only at h1 h3 h4 h5
          rw [h6] at HK
          have HN : Hid (gck 0 (l.take (n + 1)) = true) := Lib.hid (by rw [HSU.out, hok.out, hv]; rfl)
          clear hv h6
          go_wp2_with fail
          refine (HK.out _).mono ?_
          rintro en2 w2 ⟨rfl, hb⟩
          have HB2 := Lib.hid (belows_then HW.out HW.out.size hb)
          have hz := blk_cells (blk_below HZ.out hb)
          clear hb
          go_wp2_with fail
          go_roundw
          case rel => exact ⟨n + 1, by omega, by rw [HLA.out], by go_num, HN, HB2.out⟩
          case measure => simp [Go.RowKit.intOf]; omega
      · have HL : Hid (l.take n = l) := Lib.hid (take_all hn hlt)
        have HR : Hid (er = 0) := Lib.hid (by rw [HG.out]; have := hok.out; rw [HL.out] at this; rw [this]; rfl)
        go_wp2_with fail
        go_ret
        rw [HR.out]
        exact ⟨rfl, HB.out⟩
end Go.Proofs.YtgggpaacagbmcaaGreat
