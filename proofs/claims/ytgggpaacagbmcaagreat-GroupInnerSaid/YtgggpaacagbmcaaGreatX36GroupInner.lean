/- group: one member's part. -/
import Derived.Test.YtgggpaacagbmcaaGreatX33GroupInner
import Derived.Test.YtgggpaacagbmcaaGreatX35GroupInner
import Derived.Test.YtgggpaacagbmcaaGreatX17GroupInner
set_option linter.unusedVariables false
set_option linter.unusedSimpArgs false
namespace Go.Proofs.YtgggpaacagbmcaaGreat
open Go.RowKit Go.Maps Go.Deep

def memN (e1 e2 e3 e4 e5 e6 : Int) : Int := if e1 != 0 then e1 else if e2 != 0 then e2 else if e3 != 0 then e3 else if e4 != 0 then e4 else if e5 != 0 then e5 else e6
theorem trnT_ok {r : List Ac} {m : Mb} {L : List (Int × Int)} {tl : List (Int × Int)} {tp : Int} (h : trnT r m L = ((tl, tp), 0)) : tl = trnL r m L ∧ trnB r m L = true ∧ (addM ((trnL r m L).map (·.2))).2 = 0 := by
  unfold trnT at h
  cases hb : trnB r m L
  · rw [hb] at h; cases h
  · rw [hb] at h
    by_cases ha : (addM ((trnL r m L).map (·.2))).2 = 0
    · rw [ha] at h
      simp only [Bool.not_true, Bool.false_eq_true, if_false, bne_self_eq_false] at h
      exact ⟨(congrArg (fun x => x.1.1) h).symm, rfl, ha⟩
    · have : ((addM ((trnL r m L).map (·.2))).2 != 0) = true := by simpa using ha
      simp only [Bool.not_true, Bool.false_eq_true, if_false, this, if_true] at h
      exact absurd (congrArg (fun x => x.2) h) ha
theorem trnT_no {r : List Ac} {m : Mb} {L : List (Int × Int)} {te : Int} (h : (trnT r m L).2 = te) (hn : te ≠ 0) : (if !trnB r m L then (2 : Int) else if (addM ((trnL r m L).map (·.2))).2 != 0 then (addM ((trnL r m L).map (·.2))).2 else 0) = te := by
  subst h
  unfold trnT at hn ⊢
  cases hb : trnB r m L
  · rfl
  · rw [hb] at hn
    simp only [Bool.not_true, Bool.false_eq_true, if_false] at hn ⊢
    by_cases ha : (addM ((trnL r m L).map (·.2))).2 = 0
    · rw [ha] at hn; simp at hn
    · have : ((addM ((trnL r m L).map (·.2))).2 != 0) = true := by simpa using ha
      simp only [this, if_true]
theorem memE_is {r : List Ac} {ms : List Mb} {J : List Jn} {p : Int} {m : Mb} {L tl : List (Int × Int)} {O e tp te s es a ea b eb x ex : Int} (h1 : linT ms J m.en p = ((L, O), e)) (h2 : trnT r m L = ((tl, tp), te)) (h3 : scaleT O m.cl 1000000 = (s, es)) (h4 : addM (s :: tl.map (·.2)) = (a, ea))
    (h5 : addM ((s :: (tl.filter (shrB r)).map (·.2)) ++ [-a]) = (b, eb)) (h6 : scaleT b (10000 - m.sh) 10000 = (x, ex)) : memE r ms J p m = memN e te es ea eb ex ∧ (te = 0 → memP r ms J p m = ⟨tl, -a, s, x⟩) := by
  have hE : memE r ms J p m = if e != 0 then e else if !trnB r m L then 2 else if (addM ((trnL r m L).map (·.2))).2 != 0 then (addM ((trnL r m L).map (·.2))).2 else
      if es != 0 then es else if (addM (s :: (trnL r m L).map (·.2))).2 != 0 then (addM (s :: (trnL r m L).map (·.2))).2 else
      if (addM (s :: ((trnL r m L).filter (shrB r)).map (·.2) ++ [-(addM (s :: (trnL r m L).map (·.2))).1])).2 != 0 then (addM (s :: ((trnL r m L).filter (shrB r)).map (·.2) ++ [-(addM (s :: (trnL r m L).map (·.2))).1])).2 else
      (scaleT (addM (s :: ((trnL r m L).filter (shrB r)).map (·.2) ++ [-(addM (s :: (trnL r m L).map (·.2))).1])).1 (10000 - m.sh) 10000).2 := by
    unfold memE
    rw [h1]
    simp only [h3]
  by_cases hte : te = 0
  · subst hte
    obtain ⟨rfl, hb, ha⟩ := trnT_ok h2
    have h5' : addM (s :: ((trnL r m L).filter (shrB r)).map (·.2) ++ [-a]) = (b, eb) := h5
    refine ⟨?_, fun _ => ?_⟩
    · rw [hE, hb, ha, h4]
      simp only [h5', h6]
      rfl
    · unfold memP
      rw [h1]
      simp only [h3, h4, h5', h6]
  · have hno := trnT_no (r := r) (m := m) (L := L) (te := te) (by rw [h2]) hte
    refine ⟨?_, fun h => absurd h hte⟩
    rw [hE]
    unfold memN
    by_cases he : e = 0
    · subst he
      simp only [bne_self_eq_false, Bool.false_eq_true, if_false]
      have ht : (te != 0) = true := by simpa using hte
      rw [if_pos ht]
      cases hb : trnB r m L
      · rw [hb] at hno
        simpa using hno
      · rw [hb] at hno
        simp only [Bool.not_true, Bool.false_eq_true, if_false] at hno ⊢
        by_cases ha : (addM ((trnL r m L).map (·.2))).2 = 0
        · rw [ha] at hno
          simp at hno
          exact absurd hno.symm hte
        · have : ((addM ((trnL r m L).map (·.2))).2 != 0) = true := by simpa using ha
          rw [if_pos this] at hno ⊢
          exact hno
    · have h : (e != 0) = true := by simpa using he
      rw [if_pos h, if_pos h]
theorem linT_ok {ms : List Mb} {J : List Jn} {e p : Int} {L : List (Int × Int)} {O : Int} (h : linT ms J e p = ((L, O), 0)) : (∀ x ∈ L, fitsB x.2 = true) ∧ fitsB O = true ∧ L = tellS (accS [] (outL ms (linesOf J e 0 p))) := by
  unfold linT at h
  cases h1 : (tellS (accS [] (outL ms (linesOf J e 0 p)))).all (fun x => fitsB x.2)
  · rw [h1] at h; cases h
  · rw [h1] at h
    cases h2 : fitsB (sumA (inL ms (linesOf J e 0 p)))
    · rw [h2] at h; cases h
    · rw [h2] at h
      simp only [Bool.not_true, Bool.false_eq_true, if_false] at h
      injection h with h _
      injection h with h3 h4
      subst h3 h4
      exact ⟨by simpa [List.all_eq_true] using h1, h2, rfl⟩
/-- one number in a block of the call's own -/
theorem own_one {w : World} {base b : Nat} {x : Int} (hb : w.heap[b]? = some (.cells #[.int .i64 x] 3 (0, 0))) (hB : base ≤ b) (hx : I64 x) : OwnL tInt w base (.slice (some ⟨b, 0, none⟩) 1 1) [x] :=
  ⟨[[.int .i64 x]], ⟨by rw [show tInt.n = 1 from rfl]; rfl, .inr ⟨b, 1, #[.int .i64 x], rfl, hB, hb, Nat.le_refl _, by unfold maxLen; omega, by rw [show tInt.n = 1 from rfl]; rfl, rfl⟩⟩, rfl, fun c hc => by rw [List.mem_singleton.1 hc]; rfl, fun i c y hi hy => by
    cases i with
    | zero => simp at hi hy; subst hi; subst hy; exact ⟨rfl, hx⟩
    | succ i => simp at hi⟩
theorem abs_act {c : Code} {P : Program} {Q : Exit → Act → World → Prop} {a : Act} {W : World} (S : Act → Prop) (h : ∀ a0, S a0 → c.wp P Q a0 W) (hs : S a) : c.wp P Q a W := h a hs
def MemPost (w0 : World) (W c g : Nat) (p : Int) (ma : Option Addr) (ms : List Mb) (mc : Nat) (vs : List Value) (LL : List (List (Int × Int))) (L5 L6 L7 : List Int) (er : Int) (P : Part) (en : Ending) (w' : World) : Prop :=
  en = .returned (.int .i64 er) ∧ Below w0.heap.size w0 w' ∧ (er = 0 → ∃ y4 y5 y6 y7 v, WSt w0 w' W c g p ma ms mc y4 y5 y6 y7 (vs ++ [v]) (LL ++ [P.l]) (L5 ++ [P.plug]) (L6 ++ [P.out]) (L7 ++ [P.oth]))
end Go.Proofs.YtgggpaacagbmcaaGreat


/- group: all parts together. -/
set_option linter.unusedVariables false
set_option linter.unusedSimpArgs false
namespace Go.Proofs.YtgggpaacagbmcaaGreat
open Go.RowKit Go.Maps Go.Deep

theorem lv_at {w : World} {F : Nat → Prop} {a : Option Addr} {vs : List Value} (h : Sl tBalV w F a vs) (i : Nat) (hi : i < vs.length) : ∃ ad, a = some ad ∧ ad.block < w.heap.size ∧ w.cell? (ad.add i) = some vs[i] := by
  obtain ⟨ad, ces, rfl, _, hlt, hc, hr⟩ := h i vs[i] (List.getElem?_eq_getElem hi)
  refine ⟨ad, rfl, hlt, ?_⟩
  have := hc 0 vs[i] (by rw [hr.1]; rfl)
  rw [show tBalV.n = 1 from rfl] at this
  simpa [Addr.add] using this
theorem flat_len8 : ∀ {LL : List (List (Int × Int))}, (∀ l ∈ LL, l.length ≤ 800) → LL.flatten.length ≤ 800 * LL.length
  | [], _ => by simp
  | l :: r, h => by
    have ih := flat_len8 (LL := r) (fun x hx => h x (List.mem_cons_of_mem _ hx))
    have hl := h l (List.mem_cons_self ..)
    rw [List.flatten_cons, List.length_append, List.length_cons]
    omega
theorem flatten_succ {α : Type} (LL : List (List α)) (n : Nat) (hn : n < LL.length) : (LL.take (n + 1)).flatten = (LL.take n).flatten ++ LL[n] := by
  rw [List.take_succ_eq_append_getElem hn, List.flatten_append]
  simp
theorem OwnL.nilc {P : Program} {e : TypeId} {α : Type} {T : Ty P e α} {w : World} {base : Nat} {a : Option Addr} {n c : Nat} {xs : List α} (h : OwnL T w base (.slice a n c) xs) : a = none → xs = [] ∧ c = 0 := by
  rintro rfl
  rcases h.form with ⟨h1, h2⟩ | ⟨g, cap, h1, _⟩
  · injection h1 with _ _ h3
    exact ⟨h2, h3⟩
  · injection h1 with h1
    cases h1

set_option maxHeartbeats 8000000 in
set_option maxRecDepth 100000 in
theorem grBalances_any {w0 w : World} {W c g : Nat} {p : Int} {ma : Option Addr} {ms : List Mb} {mc : Nat} {x4 x5 x6 x7 : Value} {vs : List Value} {LL : List (List (Int × Int))} {L5 L6 L7 : List Int} (hS : WSt w0 w W c g p ma ms mc x4 x5 x6 x7 vs LL L5 L6 L7)
    (hlen : ∀ l ∈ LL, l.length ≤ 800) (hn : LL.length ≤ 100) :
    Calls Tryz.prog 98 #[.pointer (some ⟨W, 0, none⟩)] w (PlusPost w (plusT (LL.flatten ++ []))) := by
  obtain ⟨pa, pc, rfl, -, -, hvs⟩ := hS.o4.slice
  have HV := Lib.hid hvs
  have HS := Lib.hid hS
  have hvl := hS.lots.len
  have hcc := blk_cells hS.cell
  have hcl := blk_lt hS.cell
  have HLEN := Lib.hid hlen
  have hvl' : vs.length ≤ 9223372036854775807 := by omega
  clear hS hvs hlen
  obtain ⟨j0, hj, hy0, hy1, hy2⟩ := info_parts infoBal
  go_enter Tryz.func98, Tryz.ntmps98
  go_wp2_with fail
  go_loopw [4, 12] (fun vo vi wr => ∃ (n : Nat) (vx : Value), vx = vo ∧ n ≤ vs.length ∧ vi = .int .i64 n ∧ OwnL tBal wr w.heap.size vx (LL.take n).flatten ∧ Below w.heap.size w wr) (fun _ vi _ => vs.length - (Go.RowKit.intOf vi).toNat)
  case atStart => exact ⟨0, _, rfl, Nat.zero_le _, rfl, OwnL.nil _ _, Below.refl _ _⟩
  case round =>
    obtain ⟨n, vo, rfl, hn1, rfl, ho, hb⟩ := hrel
    have HO := Lib.hid ho
    have HB := Lib.hid hb
    clear ho hb
    by_cases hlt : n < vs.length
    · obtain ⟨ad, rfl, hadl, hc0⟩ := lv_at (Sl.keep (fun k hk _ => HB.out.block k hk) HV.out) n hlt
      have hltL : n < LL.length := by omega
      have hown := HS.out.lots.own n _ _ (List.getElem?_eq_getElem hlt) (List.getElem?_eq_getElem hltL)
      have hll := HLEN.out _ (List.getElem_mem hltL)
      have HST := Lib.hid (flatten_succ LL n hltL)
      have hfl : (LL.take n).flatten.length ≤ 80000 := by
        have h1 := flat_len8 (LL := LL.take n) (fun x hx => HLEN.out x (List.mem_of_mem_take hx))
        rw [List.length_take] at h1
        omega
      obtain ⟨X, hX⟩ : ∃ X, (LL.take n).flatten = X := ⟨_, rfl⟩
      obtain ⟨l, hl⟩ : ∃ l, LL[n] = l := ⟨_, rfl⟩
      obtain ⟨v, hv⟩ : ∃ v, vs[n] = v := ⟨_, rfl⟩
      have ho := HO.out
      rw [hX] at ho hfl HST
      rw [hl] at hll hown HST
      rw [hv] at hc0 hown
      obtain ⟨la, lc, rfl, -, -, hls⟩ := hown.slice
      have HNC := Lib.hid hown.nilc
      have HXO := Lib.hid ho
      have HLS := Lib.hid (Sl.ofw (v := vo) hls HB.out.block HB.out.size (fun k e => (ho.lt k e).1))
      have h63 : X.length + l.length ≤ maxLen := by unfold maxLen; omega
      have hby : (X.length + l.length) * 16 ≤ 140737488355328 := by omega
      have HH63 := Lib.hid (And.intro h63 hby)
      clear hX hl hv ho hown hls h63 hby HO
      go_wp2_with (at_builtin; refine wp_appA (T := tBal) rfl _ _ 49 rfl j0 (.agg #[.int .i64 0, .int .i64 0]) 16 Tryz.underlying49 hj hy0 hy1 hy2 rfl (by decide) bal_one w.heap.size vo X rfl HXO.out la lc l rfl HNC.out HLS.out HH63.out.1 HH63.out.2 HB.out.size ?_; intro v3 w3 hown hg hat; have HO3 := Lib.hid hown; have HB3 := Lib.hid (Below.grown HB.out hg HB.out.size (fun k e => (HXO.out.lt k e).1)); clear hown hg hat)
      go_roundw
      case rel => exact ⟨n + 1, _, rfl, by omega, by go_num, by rw [HST.out]; exact HO3.out, HB3.out⟩
      case measure => simp [Go.RowKit.intOf]; omega
    · have HL : Hid (LL.take n = LL) := Lib.hid (List.take_of_length_le (by omega))
      have ho := HO.out
      rw [HL.out] at ho
      have hfl : LL.flatten.length ≤ 80000 := by
        have h1 := flat_len8 HLEN.out
        omega
      obtain ⟨X, hX⟩ : ∃ X, LL.flatten = X := ⟨_, rfl⟩
      have HXE := Lib.hid hX
      rw [hX] at ho hfl
      obtain ⟨xa, xc, rfl, -, -, hxs⟩ := ho.slice
      have HXS := Lib.hid hxs
      have HPL := Lib.hid (plus_any X [] xa none xc 0 wr (F := fun _ => True) (G := fun _ => True) hxs (fun i x hx => by simp at hx) (by rw [List.length_nil]; omega))
      clear hX ho hxs HO
      obtain ⟨pT, hpT⟩ : ∃ t, plusT (X ++ []) = t := ⟨_, rfl⟩
      have HPT : Hid (plusT (LL.flatten ++ []) = pT) := Lib.hid (by rw [HXE.out]; exact hpT)
      rw [hpT] at HPL
      clear hpT
      go_wp2_with fail
      refine HPL.out.mono ?_
      rintro en w2 ⟨v2, rfl, ho2, hb2⟩
      have HO2 := Lib.hid (ho2.mono HB.out.size)
      have HB2 := Lib.hid (belows_then HB.out HB.out.size hb2)
      clear ho2 hb2
      go_wp2_with fail
      go_ret2
      rw [HPT.out]
      exact ⟨v2, rfl, HO2.out, HB2.out⟩
end Go.Proofs.YtgggpaacagbmcaaGreat


/- group: result. -/
set_option linter.unusedVariables false
set_option linter.unusedSimpArgs false
namespace Go.Proofs.YtgggpaacagbmcaaGreat
open Go.RowKit Go.Maps Go.Deep

abbrev grV (v : Value) (x : GrpR) : Value := .agg #[v, .int .i64 x.plug, .int .i64 x.out, .int .i64 x.oth, .int .i64 x.owned, .int .i64 x.owed, .int .i64 x.own]
/-- a group's result, and its error -/
def GrpPost (w : World) (t : GrpR × Int) (en : Ending) (w' : World) : Prop := ∃ v, en = .returned (.tuple #[grV v t.1, .int .i64 t.2]) ∧ OwnL tBal w' w.heap.size v t.1.bal ∧ Below w.heap.size w w'
def resT (r : List Ac) (PS : List Part) : GrpR × Int := if putE r PS != 0 then (grp0, putE r PS) else (putG r PS, 0)
theorem seven (w : World) (b : Nat) {t : TypeId} {x0 x1 x2 x3 x4 x5 x6 : Value} (h : w.heap[b]? = some (.cells #[x0, x1, x2, x3, x4, x5, x6] t (0, 0))) (v0 v1 v2 v3 v4 v5 v6 : Value) :
    ∃ w4, (((((((w.setCell ⟨b, 0, none⟩ v0).setCell ⟨b, 1, none⟩ v1).setCell ⟨b, 2, none⟩ v2).setCell ⟨b, 3, none⟩ v3).setCell ⟨b, 4, none⟩ v4).setCell ⟨b, 5, none⟩ v5).setCell ⟨b, 6, none⟩ v6) = w4 ∧ w4.heap[b]? = some (.cells #[v0, v1, v2, v3, v4, v5, v6] t (0, 0)) ∧ w4.heap.size = w.heap.size ∧
      (∀ k, k ≠ b → w4.heap[k]? = w.heap[k]?) ∧ (∀ B w0, Below B w0 w → B ≤ b → Below B w0 w4) := by
  refine ⟨_, rfl, ?_, by simp, fun k hk => ?_, fun B w0 hb hB => ?_⟩
  · have := blk_set (blk_set (blk_set (blk_set (blk_set (blk_set (blk_set h 0 v0) 1 v1) 2 v2) 3 v3) 4 v4) 5 v5) 6 v6
    simpa using this
  · iterate 7 (rw [Below.heap_setCell _ _ _ k hk])
  · iterate 7 (refine Below.setCell ?_ hB _)
    exact hb
theorem memN_snd {e : Int} : (e != 0) = true ↔ e ≠ 0 := by simp
theorem plus_fits {l L : List (Int × Int)} {e : Int} (h : plusT l = (L, e)) : (∀ x ∈ L, fitsB x.2 = true) ∧ L.length ≤ l.length ∧ (e = 0 ∨ e = 2) := by
  unfold plusT at h
  split at h
  · injection h with h1 h2
    subst h1
    refine ⟨fun x hx => ?_, ?_, .inl h2.symm⟩
    · obtain ⟨k, _, hk⟩ := List.mem_flatMap.1 hx
      unfold plusK at hk
      split at hk
      · simp at hk
      · rw [List.mem_singleton.1 hk]
        exact addM_fit _
    · refine Nat.le_trans (flat_len1 _ (fun k => by unfold plusK; split <;> simp) _) ?_
      rw [srt_len]
      exact keysOf_len l
  · injection h with h1 h2
    subst h1
    exact ⟨fun x hx => by simp at hx, Nat.zero_le _, .inr h2.symm⟩
end Go.Proofs.YtgggpaacagbmcaaGreat


/- trial.Pick of many balances. -/
set_option linter.unusedVariables false
set_option linter.unusedSimpArgs false
namespace Go.Proofs.YtgggpaacagbmcaaGreat
open Go.RowKit Go.Maps Go.Deep

set_option maxHeartbeats 8000000 in
set_option maxRecDepth 100000 in
theorem pick_big {w : World} {g : Nat} {mb : Option Nat} {r : List Ac} (h : ChartAt w g mb r) (l : List (Int × Int)) (a : Option Addr) (cap : Nat) (ks : List Int) (ka : Option Addr) (kc : Nat) {F G : Nat → Prop} (hs : Sl tBal w F a l) (hl : l.length ≤ 100000) (hks : Sl tInt w G ka ks) (hkl : ks.length ≤ maxLen) :
    Calls Tryz.prog 99 #[.pointer (some ⟨g, 0, none⟩), .slice a l.length cap, .slice ka ks.length kc] w fun e w' => ∃ v, e = .returned v ∧ OwnL tBal w' w.heap.size v (l.filter (pickB r ks)) ∧ Below w.heap.size w w' := by
  have HH := Lib.hid h
  have HS := Lib.hid hs
  have HKS := Lib.hid hks
  clear h hs hks
  obtain ⟨i0, hi, hz0, hz1, hz2⟩ := info_parts infoBal
  go_enter Tryz.func99, Tryz.ntmps99
  go_wp2_with fail
  go_loopw [7, 14] (fun vo vi wr => ∃ (n : Nat) (vx : Value), vx = vo ∧ n ≤ l.length ∧ vi = .int .i64 n ∧ OwnL tBal wr w.heap.size vx ((l.take n).filter (pickB r ks)) ∧ Below w.heap.size w wr) (fun _ vi _ => l.length - (Go.RowKit.intOf vi).toNat)
  case atStart => exact ⟨0, _, rfl, Nat.zero_le _, rfl, OwnL.nil _ _, Below.refl _ _⟩
  case round =>
    obtain ⟨n, vo, rfl, hn, rfl, ho, hb⟩ := hrel
    have HO := Lib.hid ho
    have HB := Lib.hid hb
    clear ho hb
    by_cases hlt : n < l.length
    · obtain ⟨ad, rfl, _, hadl, hc0, hc1, g0, g1⟩ := bal_at (Sl.keep (fun k hk _ => HB.out.block k hk) HS.out) n hlt
      have HY := Lib.hid (fun h => filter_yes (pickB r ks) hlt h)
      have HN := Lib.hid (fun h => filter_no (pickB r ks) hlt h)
      have hnum : ((l.take n).filter (pickB r ks)).length ≤ 100000 := by
        have := List.length_filter_le (pickB r ks) (l.take n)
        rw [List.length_take] at this
        omega
      generalize l[n] = x at *
      obtain ⟨k, v⟩ := x
      simp only at hc0 hc1 g0 g1
      have G0 := Lib.hid g0
      have G1 := Lib.hid g1
      have HBA : Hid (Below wr.heap.size wr (wr.alloc (.cells #[.int .i64 k, .int .i64 v] 62))) := Lib.hid ((Below.refl _ _).alloc (Nat.le_refl _) _)
      have HZA := Lib.hid (blk_new wr (.cells #[.int .i64 k, .int .i64 v] 62))
      have HC := Lib.hid (chget_any ((HH.out.below HB.out).below HBA.out) k g0)
      have hpk : pickB r ks (k, v) = match findA r k with | some a => ks.contains a.kind | none => false := rfl
      clear g0 g1
      cases hfa : findA r k with
      | none =>
        have hd : acD r k = ac0 := by unfold acD; rw [hfa]; rfl
        rw [hfa] at hpk
        have hcg := HC.out
        rw [hfa, hd] at hcg
        have HCG := Lib.hid hcg
        have HPK : Hid (pickB r ks (k, v) = false) := Lib.hid hpk
        clear hcg HC hpk hd hfa
        go_wp2_with fail
        refine HCG.out.mono ?_
        rintro en w2 ⟨rfl, hb⟩
        have HB2 := Lib.hid (belows_then (belows_then HB.out HB.out.size HBA.out) (Nat.le_trans HB.out.size HBA.out.size) hb)
        have HO2 := Lib.hid ((HO.out.below HBA.out).below hb)
        clear hb
        go_wp2_with fail
        go_roundw
        case rel => exact ⟨n + 1, _, rfl, by omega, by go_num, by rw [HN.out HPK.out]; exact HO2.out.alloc _, HB2.out.alloc HB2.out.size _⟩
        case measure => simp [Go.RowKit.intOf]; omega
      | some ac =>
        have hd : acD r k = ac := by unfold acD; rw [hfa]; rfl
        rw [hfa] at hpk
        have hcg := HC.out
        rw [hfa, hd] at hcg
        have HCG := Lib.hid hcg
        have HPK : Hid (pickB r ks (k, v) = ks.contains ac.kind) := Lib.hid hpk
        clear hcg HC hpk hd hfa
        obtain ⟨c1, c2, c3⟩ := ac
        go_wp2_with fail
        refine HCG.out.mono ?_
        rintro en w2 ⟨rfl, hb⟩
        have HB2 := Lib.hid (belows_then (belows_then HB.out HB.out.size HBA.out) (Nat.le_trans HB.out.size HBA.out.size) hb)
        have HO2 := Lib.hid ((HO.out.below HBA.out).below hb)
        have HZ2 := Lib.hid (blk_below HZA.out hb)
        have HK2 := Lib.hid (Sl.keep (fun k hk _ => (HB2.out.alloc HB2.out.size (.cells #[.int .i64 c1, .int .i64 c2, .bool c3] 79)).block k hk) HKS.out)
        have hzc := blk_cells HZ2.out
        have hzl := blk_lt HZ2.out
        simp only [Option.isSome_some]
        clear hb hc0 hc1 hadl
        cases hc : ks.contains c2
        · have HP2 := Lib.hid (HPK.out.trans hc)
          have HCC := Lib.hid (contains_any ks ka kc c2 _ HK2.out hkl hc)
          clear hc
          go_wp2_with fail
          refine HCC.out.mono ?_
          rintro en w3 ⟨rfl, rfl⟩
          go_wp2_with fail
          go_roundw
          case rel => exact ⟨n + 1, _, rfl, by omega, by go_num, by rw [HN.out HP2.out]; exact HO2.out.alloc _, HB2.out.alloc HB2.out.size _⟩
          case measure => simp [Go.RowKit.intOf]; omega
        · have HP2 := Lib.hid (HPK.out.trans hc)
          have HCC := Lib.hid (contains_any ks ka kc c2 _ HK2.out hkl hc)
          clear hc
          have HOA := Lib.hid ((HO2.out.alloc (.cells #[.int .i64 c1, .int .i64 c2, .bool c3] 79)).alloc (.cells #[.int .i64 k, .int .i64 v] 62))
          have HBB := Lib.hid ((HB2.out.alloc HB2.out.size (.cells #[.int .i64 c1, .int .i64 c2, .bool c3] 79)).alloc (by have := HB2.out.size; simp; omega) (.cells #[.int .i64 k, .int .i64 v] 62))
          have HSL : Hid (Sl tBal ((w2.alloc (.cells #[.int .i64 c1, .int .i64 c2, .bool c3] 79)).alloc (.cells #[.int .i64 k, .int .i64 v] 62)) (fun kk => some kk ≠ vo.ownBlock ∧ kk < ((w2.alloc (.cells #[.int .i64 c1, .int .i64 c2, .bool c3] 79)).alloc (.cells #[.int .i64 k, .int .i64 v] 62)).heap.size) (some ⟨w2.heap.size + 1, 0, none⟩) [(k, v)]) :=
            Lib.hid (sl_one2 tBal (x := (k, v)) rfl (by have := blk_new (w2.alloc (.cells #[.int .i64 c1, .int .i64 c2, .bool c3] 79)) (.cells #[.int .i64 k, .int .i64 v] 62); simpa using this) ⟨fun e => by have := (HO2.out.lt _ e.symm).2; omega, by simp⟩ (bal_mk (k, v) G0.out G1.out))
          have h63 : ((l.take n).filter (pickB r ks)).length + [((k, v) : Int × Int)].length ≤ maxLen := by simp only [List.length_cons, List.length_nil]; unfold maxLen; omega
          have hby : (((l.take n).filter (pickB r ks)).length + [((k, v) : Int × Int)].length) * 16 ≤ 140737488355328 := by simp only [List.length_cons, List.length_nil]; omega
          go_wp2_with fail
          refine HCC.out.mono ?_
          rintro en w3 ⟨rfl, rfl⟩
          go_wp2_with (at_builtin; refine wp_app (T := tBal) rfl _ _ 49 rfl i0 (.agg #[.int .i64 0, .int .i64 0]) 16 Tryz.underlying49 hi hz0 hz1 hz2 rfl (by decide) bal_one w.heap.size vo ((l.take n).filter (pickB r ks)) rfl HOA.out ⟨w2.heap.size + 1, 0, none⟩ 1 [(k, v)] rfl HSL.out h63 hby HBB.out.size ?_; intro v3 w3 hown hg hnil hat; have HO3 := Lib.hid hown; have HB3 := Lib.hid (Below.grown HBB.out hg HBB.out.size (fun k e => (HOA.out.lt k e).1)); clear hown hg hnil hat)
          go_roundw
          case rel => exact ⟨n + 1, _, rfl, by omega, by go_num, by rw [HY.out HP2.out]; exact HO3.out, HB3.out⟩
          case measure => simp [Go.RowKit.intOf]; omega
    · have HL : Hid (l.take n = l) := Lib.hid (take_all hn hlt)
      have hown := HO.out
      rw [HL.out] at hown
      have HW := Lib.hid hown
      clear hown
      go_wp2_with fail
      go_ret
      exact ⟨_, rfl, HW.out, HB.out⟩

end Go.Proofs.YtgggpaacagbmcaaGreat
