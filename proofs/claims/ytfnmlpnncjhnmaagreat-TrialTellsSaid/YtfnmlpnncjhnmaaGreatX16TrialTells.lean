/- trial: Balances, Partners. -/
import Derived.Test.YtfnmlpnncjhnmaaGreatX15TrialTells
set_option linter.unusedVariables false
set_option linter.unusedSimpArgs false
namespace Go.Proofs.YtfnmlpnncjhnmaaGreat
open Go.RowKit Go.Maps

def fBal : Flds Tryz.prog [fld "Account" 3 0 0, fld "Amount" 3 1 8] 0 (Int × Int × Unit) :=
  Flds.cons (f := fld "Account" 3 0 0) tInt rfl (Flds.cons (f := fld "Amount" 3 1 8) tInt rfl (Flds.nil _ _))
def tBal : Ty Tryz.prog 94 (Int × Int) := (Ty.struct Tryz.underlying94 fBal (by kernel_rfl)).map (fun x => (x.1, x.2.1))
theorem bal_inv {w : World} {F : Nat → Prop} {cs : List Value} {x : Int × Int} (h : tBal.R w F cs x) : cs = pairV x ∧ I64 x.1 ∧ I64 x.2 := by
  obtain ⟨y, rfl, c1, c2, rfl, ⟨rfl, h1⟩, c3, c4, rfl, ⟨rfl, h2⟩, rfl⟩ := h
  exact ⟨rfl, h1, h2⟩
theorem bal_mk {w : World} {F : Nat → Prop} (x : Int × Int) (h1 : I64 x.1) (h2 : I64 x.2) : tBal.R w F (pairV x) x :=
  ⟨(x.1, x.2, ()), rfl, [_], [_], rfl, ⟨rfl, h1⟩, [_], [], rfl, ⟨rfl, h2⟩, rfl⟩
theorem bal_free (w : World) (F G : Nat → Prop) (c : List Value) (x : Int × Int) (h : tBal.R w F c x) : tBal.R w G c x := by
  obtain ⟨rfl, h1, h2⟩ := bal_inv h
  exact bal_mk x h1 h2
theorem bal_one (w : World) (F : Nat → Prop) (c : List Value) (x : Int × Int) (h : tBal.R w F c x) : ∀ u ∈ c, u.oneCell' = true := by
  obtain ⟨rfl, _⟩ := bal_inv h
  simp [Value.oneCell']
theorem infoBal : (Tryz.prog.info? 94).map (fun i => (i.zero, i.size, i.bytes)) = some (some (.agg #[.int .i64 0, .int .i64 0]), 2, 16) := by kernel_rfl
theorem bal_at {w : World} {F : Nat → Prop} {a : Option Addr} {l : List (Int × Int)} (h : Sl tBal w F a l) (i : Nat) (hi : i < l.length) :
    ∃ ad, a = some ad ∧ F ad.block ∧ ad.block < w.heap.size ∧ w.cell? (ad.add (i * 2)) = some (.int .i64 l[i].1) ∧ w.cell? ⟨(ad.add (i * 2)).block, (ad.add (i * 2)).off + 1, none⟩ = some (.int .i64 l[i].2) ∧ I64 l[i].1 ∧ I64 l[i].2 := by
  obtain ⟨ad, ces, rfl, hf, hlt, hc, hr⟩ := h i l[i] (List.getElem?_eq_getElem hi)
  obtain ⟨rfl, h1, h2⟩ := bal_inv hr
  rw [show tBal.n = 2 from rfl] at hc
  refine ⟨ad, rfl, hf, hlt, ?_, ?_, h1, h2⟩
  · have := hc 0 _ rfl
    simpa [Addr.add] using this
  · have := hc 1 _ rfl
    rw [Addr.add] at this
    simpa using this

/-- journals as they lie in a book: with lines, of which there are few -/
def GoodJ (l : List Jn) : Prop := ∀ x ∈ l, x.lines ≠ [] ∧ x.lines.length ≤ 8
theorem GoodJ.ne {l : List Jn} (h : GoodJ l) : ∀ x ∈ l, x.lines ≠ [] := fun x hx => (h x hx).1
theorem ins_len (s : List (Int × Int)) (k v : Int) : (ins s k v).length ≤ s.length + 1 := by
  induction s with
  | nil => simp [ins]
  | cons x r ih =>
    unfold ins
    split
    · simp
    · simp only [List.length_cons]; omega
theorem sAdd_len (s : List (Int × Int)) (k v : Int) : (sAdd s k v).length ≤ s.length + 1 := ins_len _ _ _
theorem accS_len : ∀ (ls : List Ln) (s : List (Int × Int)), (accS s ls).length ≤ s.length + ls.length
  | [], s => by simp [accS]
  | x :: r, s => by
    have h1 := accS_len r (sAdd s x.acc x.amt)
    have h2 := sAdd_len s x.acc x.amt
    simp only [accS, List.foldl_cons, List.length_cons] at h1 ⊢
    omega
theorem sPar_len (s : List (Int × Int)) (l : Ln) : (sPar s l).length ≤ s.length + 1 := by
  unfold sPar
  split
  · omega
  · exact sAdd_len _ _ _
theorem parS_len : ∀ (ls : List Ln) (s : List (Int × Int)), (parS s ls).length ≤ s.length + ls.length
  | [], s => by simp [parS]
  | x :: r, s => by
    have h1 := parS_len r (sPar s x)
    have h2 := sPar_len s x
    simp only [parS, List.foldl_cons, List.length_cons] at h1 ⊢
    omega
theorem accS_vals : ∀ (ls : List Ln) (s : List (Int × Int)), (∀ x ∈ s, I64 x.2) → ∀ x ∈ accS s ls, I64 x.2
  | [], s, h => h
  | x :: r, s, h => accS_vals r (sAdd s x.acc x.amt) (sAdd_vals h _ _)
theorem sPar_vals {s : List (Int × Int)} (h : ∀ x ∈ s, I64 x.2) (l : Ln) : ∀ x ∈ sPar s l, I64 x.2 := by
  unfold sPar
  split
  · exact h
  · exact sAdd_vals h _ _
theorem parS_vals : ∀ (ls : List Ln) (s : List (Int × Int)), (∀ x ∈ s, I64 x.2) → ∀ x ∈ parS s ls, I64 x.2
  | [], s, h => h
  | x :: r, s, h => parS_vals r (sPar s x) (sPar_vals h x)
theorem flat8 : ∀ {l : List Jn}, GoodJ l → (l.flatMap (·.lines)).length ≤ 8 * l.length
  | [], _ => by simp
  | x :: r, h => by
    have ih := flat8 (l := r) (fun y hy => h y (List.mem_cons_of_mem _ hy))
    have hx := (h x (List.mem_cons_self ..)).2
    rw [List.flatMap_cons, List.length_append, List.length_cons]
    omega
theorem linesOf_len {l : List Jn} (h : GoodJ l) (hl : l.length ≤ 1000) (e f t : Int) : (linesOf l e f t).length ≤ 8000 := by
  unfold linesOf
  have h1 := flat8 (l := l.filter (cnt e f t)) (fun x hx => h x (List.mem_filter.1 hx).1)
  have h2 := List.length_filter_le (cnt e f t) l
  omega

def accR (l : List Jn) (e f t : Int) : List (Int × Int) := tellS (accS [] (linesOf l e f t))
def parR (l : List Jn) (e f t : Int) : List (Int × Int) := tellS (parS [] (linesOf l e f t))
def balT (l : List Jn) (e f t : Int) : List (Int × Int) × Int :=
  if rightB e f t then (if (accR l e f t).all (fun x => fitsB x.2) then (accR l e f t, 0) else ([], 2)) else ([], 1)
def BalPost (w : World) (r : List (Int × Int) × Int) (e : Ending) (w' : World) : Prop := ∃ v, e = .returned (.tuple #[v, .int .i64 r.2]) ∧ OwnL tBal w' w.heap.size v r.1 ∧ Below w.heap.size w w'

theorem mfits_lo (m : Int) (b : Nat) (w : World) (hm : w.heap[b]? = some (.cells #[.int .i64 m] 3 (0, 0))) (hw : (Lit.int .i64 m).wf = true) {x : Bool} (h : fitsB m = x) :
    Calls Tryz.prog 45 #[.slice (some ⟨b, 0, none⟩) 1 1] w fun e w' => e = .returned (.bool x) ∧ Below w.heap.size w w' :=
  (mfits_is m b w hm hw h).mono fun e w' ⟨h1, h2⟩ => ⟨h1, by rw [h2]; exact Below.refl _ _⟩
set_option maxHeartbeats 8000000 in
set_option maxRecDepth 100000 in
theorem balances_any {w : World} {g : Nat} {a : Option Addr} {cap : Nat} {l : List Jn} {F : Nat → Prop} (hbk : BookAt w g a cap l F) (hl : l.length ≤ 1000) (hgood : GoodJ l) (e f t : Int) (hf : I64 f) (ht : I64 t) :
    Calls Tryz.prog 11 #[.pointer (some ⟨g, 0, none⟩), tofv e f t] w (BalPost w (balT l e f t)) := by
  have HK := Lib.hid (hbk.below ((Below.refl _ _).alloc (Nat.le_refl _) (.cells #[.int .i64 e, .int .i64 f, .int .i64 t] 31)))
  have HG := Lib.hid hgood
  have HZ := Lib.hid (blk_new w (.cells #[.int .i64 e, .int .i64 f, .int .i64 t] 31))
  have HB := Lib.hid ((Below.refl w.heap.size w).alloc (Nat.le_refl _) (.cells #[.int .i64 e, .int .i64 f, .int .i64 t] 31))
  clear hbk hgood
  obtain ⟨i0, hi, hz0, hz1, hz2⟩ := info_parts infoBal
  generalize hbT : balT l e f t = bT
  have HBT := Lib.hid hbT
  clear hbT
  cases hrt : rightB e f t
  · have HR : Hid (bT = ([], 1)) := Lib.hid (by rw [← HBT.out]; simp [balT, hrt])
    go_enter Tryz.func11, Tryz.ntmps11
    go_wp2_with fail
    refine (right_any e f t hf ht _ hrt).mono ?_
    rintro en w2 ⟨rfl, hb⟩
    have HB2 := Lib.hid (belows_then HB.out (by simp) hb)
    clear hb hrt
    go_wp2_with fail
    go_ret2
    rw [HR.out]
    exact ⟨_, rfl, OwnL.nil _ _, HB2.out⟩
  · have HR : Hid (bT = if (accR l e f t).all (fun x => fitsB x.2) then (accR l e f t, 0) else ([], 2)) := Lib.hid (by rw [← HBT.out]; simp [balT, hrt])
    go_enter Tryz.func11, Tryz.ntmps11
    go_wp2_with fail
    refine (right_any e f t hf ht _ hrt).mono ?_
    rintro en w2 ⟨rfl, hb⟩
    have HB2 := Lib.hid (belows_then HB.out (by simp) hb)
    have HK2 := Lib.hid (HK.out.below hb)
    have hzc := blk_cells (blk_below HZ.out hb)
    clear hb hrt
    go_wp2_with fail
    refine (of_acc HK2.out hl HG.out.ne e f t).mono ?_
    rintro en w3 ⟨bm, rfl, hm, hb⟩
    have HB3 := Lib.hid (belows_then HB2.out HB2.out.size hb)
    have HM3 := Lib.hid hm
    clear hb hm hzc
    go_wp2_with fail
    refine (tell_any HM3.out (by have := accS_len (linesOf l e f t) []; have := linesOf_len HG.out hl e f t; simp at *; omega) (accS_vals _ _ (fun x hx => by simp at hx))).mono ?_
    rintro en w4 ⟨v4, rfl, ho, hb⟩
    have HB4 := Lib.hid (belows_then HB3.out HB3.out.size hb)
    have HLEN : Hid ((accR l e f t).length ≤ 8000) := Lib.hid (by
      have h1 := tellS_len (accS [] (linesOf l e f t))
      have h2 := accS_len (linesOf l e f t) []
      have h3 := linesOf_len HG.out hl e f t
      simp only [List.length_nil] at h2
      unfold accR
      omega)
    obtain ⟨ra, rc, rfl, _, _, hrs⟩ := ho.slice
    have hfold : tellS (accS [] (linesOf l e f t)) = accR l e f t := rfl
    rw [hfold] at hrs ⊢
    generalize hr : accR l e f t = r at hrs HLEN HR ⊢
    have HRS := Lib.hid hrs
    have hlen := HLEN.out
    clear ho hb hrs hfold hr
    go_wp2_with fail
    go_loopw [6, 21] (fun vo vi wr => ∃ (n : Nat) (vx : Value), vx = vo ∧ n ≤ r.length ∧ vi = .int .i64 n ∧ OwnL tBal wr w4.heap.size vx (r.take n) ∧ Below w4.heap.size w4 wr ∧ Hid ((r.take n).all (fun x => fitsB x.2) = true)) (fun _ vi _ => r.length - (intOf vi).toNat)
    case atStart => exact ⟨0, _, rfl, Nat.zero_le _, rfl, OwnL.nil _ _, Below.refl _ _, Lib.hid rfl⟩
    case round =>
      obtain ⟨n, vo, rfl, hn, rfl, ho, hb, hfit⟩ := hrel
      have HO := Lib.hid ho
      have HB5 := Lib.hid hb
      clear ho hb
      by_cases hlt : n < r.length
      · obtain ⟨ad, rfl, _, hadl, hc0, hc1, g0, g1⟩ := pair_at (Sl.keep (fun k hk _ => HB5.out.block k hk) HRS.out) n hlt
        have HX : Hid (r[n] = (r[n].1, r[n].2)) := Lib.hid rfl
        have HST : Hid ((r.take (n + 1)).all (fun x => fitsB x.2) = ((r.take n).all (fun x => fitsB x.2) && fitsB r[n].2)) := Lib.hid (all_take_succ _ r n hlt)
        have HTK : Hid (r.take (n + 1) = r.take n ++ [r[n]]) := Lib.hid (List.take_succ_eq_append_getElem hlt)
        have HANY : Hid (fitsB r[n].2 = false → r.all (fun x => fitsB x.2) = false) := Lib.hid (fun h => by rw [List.all_eq_false]; exact ⟨r[n], List.getElem_mem hlt, by simp [h]⟩)
        generalize hx : r[n] = x at *
        obtain ⟨k, v⟩ := x
        simp only at hc0 hc1 g0 g1 HST HANY
        have G0 := Lib.hid g0
        have G1 := Lib.hid g1
        have HBA := Lib.hid ((HB5.out.alloc HB5.out.size (.cells #[.int .i64 k, .int .i64 v] 110)).alloc (by have := HB5.out.size; simp; omega) (.cells #[.int .i64 v] 3))
        have HOA := Lib.hid ((HO.out.alloc (.cells #[.int .i64 k, .int .i64 v] 110)).alloc (.cells #[.int .i64 v] 3))
        have HPC := Lib.hid (blk_alloc (blk_new wr (.cells #[.int .i64 k, .int .i64 v] 110)) (.cells #[.int .i64 v] 3))
        have HIC := Lib.hid (by have := blk_new (wr.alloc (.cells #[.int .i64 k, .int .i64 v] 110)) (.cells #[.int .i64 v] 3); simpa using this : ((wr.alloc (.cells #[.int .i64 k, .int .i64 v] 110)).alloc (.cells #[.int .i64 v] 3)).heap[wr.heap.size + 1]? = some (.cells #[.int .i64 v] 3 (0, 0)))
        have hnum : (r.take n).length ≤ 8000 := by rw [List.length_take]; omega
        clear g0 g1 hx
        go_wp2_with fail
        cases hfv : fitsB v
        · have HRF : Hid (bT = ([], 2)) := Lib.hid (by rw [HR.out, HANY.out hfv]; rfl)
          refine (mfits_lo v _ _ HIC.out G1.out hfv).mono ?_
          rintro en w6 ⟨rfl, hb⟩
          have HB6 := Lib.hid (belows_then HBA.out HBA.out.size hb)
          clear hb hc0 hc1 hadl hfv
          go_wp2_with fail
          go_ret2
          rw [HRF.out]
          exact ⟨_, rfl, OwnL.nil _ _, belows_then HB4.out HB4.out.size HB6.out⟩
        · have HN : Hid ((r.take (n + 1)).all (fun x => fitsB x.2) = true) := Lib.hid (by rw [HST.out, hfit.out, hfv]; rfl)
          refine (mfits_lo v _ _ HIC.out G1.out hfv).mono ?_
          rintro en w6 ⟨rfl, hb⟩
          have HB6 := Lib.hid (belows_then HBA.out HBA.out.size hb)
          have hpc := blk_cells (blk_below HPC.out hb)
          have hpl := blk_lt (blk_below HPC.out hb)
          have HO6 := Lib.hid ((HOA.out.below hb).alloc (.cells #[.int .i64 k, .int .i64 v] 94))
          have HB7 := Lib.hid (HB6.out.alloc HB6.out.size (.cells #[.int .i64 k, .int .i64 v] 94))
          have HSL : Hid (Sl tBal (w6.alloc (.cells #[.int .i64 k, .int .i64 v] 94)) (fun kk => some kk ≠ vo.ownBlock ∧ kk < (w6.alloc (.cells #[.int .i64 k, .int .i64 v] 94)).heap.size) (some ⟨w6.heap.size, 0, none⟩) [(k, v)]) :=
            Lib.hid (sl_one2 tBal (x := (k, v)) rfl (blk_new w6 _) ⟨fun e => by have := ((HOA.out.below hb).lt _ e.symm).2; omega, by simp⟩ (bal_mk (k, v) G0.out G1.out))
          have h63 : (r.take n).length + [((k, v) : Int × Int)].length ≤ maxLen := by simp only [List.length_cons, List.length_nil]; unfold maxLen; omega
          have hby : ((r.take n).length + [((k, v) : Int × Int)].length) * 16 ≤ 140737488355328 := by simp only [List.length_cons, List.length_nil]; omega
          clear hb hc0 hc1 hadl hfv
          go_wp2_with (at_builtin; refine wp_app (T := tBal) rfl _ _ 32 rfl i0 (.agg #[.int .i64 0, .int .i64 0]) 16 Tryz.underlying32 hi hz0 hz1 hz2 rfl (by decide) bal_one w4.heap.size vo (r.take n) rfl HO6.out ⟨w6.heap.size, 0, none⟩ 1 [(k, v)] rfl HSL.out h63 hby HB7.out.size ?_; intro v3 w7 hown hg hnil hat; have HO7 := Lib.hid hown; have HB8 := Lib.hid (Below.grown HB7.out hg HB7.out.size (fun k e => (HO6.out.lt k e).1)); clear hown hg hnil hat)
          go_roundw
          case rel => exact ⟨n + 1, _, rfl, by omega, by go_num, by rw [HTK.out]; exact HO7.out, HB8.out, HN⟩
          case measure => simp [intOf]; omega
      · have HL : Hid (r.take n = r) := Lib.hid (take_all hn hlt)
        have HRT : Hid (bT = (r, 0)) := Lib.hid (by rw [HR.out]; have := hfit.out; rw [HL.out] at this; rw [this]; rfl)
        go_wp2_with fail
        go_ret2
        rw [HRT.out]
        exact ⟨vo, rfl, by have := HO.out.mono HB4.out.size; rwa [HL.out] at this, belows_then HB4.out HB4.out.size HB5.out⟩

def parT (l : List Jn) (e f t : Int) : List (Int × Int) × Int := if (balT l e f t).2 == 0 then (parR l e f t, 0) else ([], (balT l e f t).2)
def ParPost (w : World) (r : List (Int × Int) × Int) (e : Ending) (w' : World) : Prop := ∃ v, e = .returned (.tuple #[v, .int .i64 r.2]) ∧ OwnL tPair w' w.heap.size v r.1 ∧ Below w.heap.size w w'

set_option maxHeartbeats 8000000 in
set_option maxRecDepth 100000 in
theorem partnersT_any {w : World} {g : Nat} {a : Option Addr} {cap : Nat} {l : List Jn} {F : Nat → Prop} (hbk : BookAt w g a cap l F) (hl : l.length ≤ 1000) (hgood : GoodJ l) (e f t : Int) (hf : I64 f) (ht : I64 t) :
    Calls Tryz.prog 12 #[.pointer (some ⟨g, 0, none⟩), tofv e f t] w (ParPost w (parT l e f t)) := by
  have HK := Lib.hid (hbk.below ((Below.refl _ _).alloc (Nat.le_refl _) (.cells #[.int .i64 e, .int .i64 f, .int .i64 t] 31)))
  have HG := Lib.hid hgood
  have HZ := Lib.hid (blk_new w (.cells #[.int .i64 e, .int .i64 f, .int .i64 t] 31))
  have HB := Lib.hid ((Below.refl w.heap.size w).alloc (Nat.le_refl _) (.cells #[.int .i64 e, .int .i64 f, .int .i64 t] 31))
  have HF := Lib.hid hf
  have HT := Lib.hid ht
  clear hbk hgood hf ht
  generalize hpT : parT l e f t = pT
  have HPT := Lib.hid hpT
  unfold parT at hpT
  clear hpT
  go_enter Tryz.func12, Tryz.ntmps12
  go_wp2_with fail
  refine (balances_any HK.out hl HG.out e f t HF.out HT.out).mono ?_
  rintro en w2 ⟨v, rfl, _, hb⟩
  have HB2 := Lib.hid (belows_then HB.out (by simp) hb)
  have HK2 := Lib.hid (HK.out.below hb)
  have hzc := blk_cells (blk_below HZ.out hb)
  generalize hc : (balT l e f t).2 = c
  have HC := Lib.hid hc
  clear hb hc
  cases hc0 : c == 0
  · have hc1 : (c != 0) = true := by simpa using hc0
    have HR : Hid (pT = ([], c)) := Lib.hid (by rw [← HPT.out]; simp [parT, HC.out, hc0])
    clear hc0
    go_wp2_with fail
    go_ret2
    rw [HR.out]
    exact ⟨_, rfl, OwnL.nil _ _, HB2.out⟩
  · have hc1 : (c != 0) = false := by simpa using hc0
    have HR : Hid (pT = (parR l e f t, 0)) := Lib.hid (by rw [← HPT.out]; simp [parT, HC.out, hc0])
    clear hc0
    go_wp2_with fail
    refine (of_par HK2.out hl HG.out.ne e f t).mono ?_
    rintro en w3 ⟨bm, rfl, hm, hb⟩
    have HB3 := Lib.hid (belows_then HB2.out HB2.out.size hb)
    have HM3 := Lib.hid hm
    clear hb hm hzc
    go_wp2_with fail
    refine (tell_any HM3.out (by have := parS_len (linesOf l e f t) []; have := linesOf_len HG.out hl e f t; simp at *; omega) (parS_vals _ _ (fun x hx => by simp at hx))).mono ?_
    rintro en w4 ⟨v4, rfl, ho, hb⟩
    have HB4 := Lib.hid (belows_then HB3.out HB3.out.size hb)
    have HO4 := Lib.hid (ho.mono HB3.out.size)
    clear ho hb
    go_wp2_with fail
    go_ret2
    rw [HR.out]
    exact ⟨v4, rfl, HO4.out, HB4.out⟩
end Go.Proofs.YtfnmlpnncjhnmaaGreat
