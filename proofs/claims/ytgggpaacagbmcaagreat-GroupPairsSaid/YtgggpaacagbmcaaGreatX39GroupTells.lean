/- Plain: the document's group is the program's. -/
import Derived.Test.YtgggpaacagbmcaaGreatX22GroupTells
import Derived.Test.YtgggpaacagbmcaaGreatX23GroupTells
import Derived.Test.YtgggpaacagbmcaaGreatX38GroupTells
import Derived.Test.YtgggpaacagbmcaaGreatX25GroupTells
import Derived.Test.YtgggpaacagbmcaaGreatX26GroupTells
import Derived.Test.YtgggpaacagbmcaaGreatX12GroupTells
set_option linter.unusedVariables false
set_option linter.unusedSimpArgs false
namespace Go.Proofs.YtgggpaacagbmcaaGreat
open Go.RowKit Go.Maps Go.Deep

theorem all_fitS {l : List Int} (h : l.all fitsB = true) : addM l = fitS (sumI l) := by
  unfold addM
  rw [h]
  rfl
theorem fit_cases (s : Int) : (fitsB s = true ∧ fitS s = (s, 0)) ∨ (fitsB s = false ∧ fitS s = (0, 2)) := by
  unfold fitS
  cases h : fitsB s
  · exact .inr ⟨rfl, rfl⟩
  · exact .inl ⟨rfl, rfl⟩
theorem fitS_fit (s : Int) : fitsB (fitS s).1 = true := by
  rcases fit_cases s with ⟨h, e⟩ | ⟨h, e⟩
  · rw [e]; exact h
  · rw [e]; rfl
theorem fits_neg {s : Int} (h : fitsB s = true) : fitsB (-s) = true := by
  unfold fitsB at h ⊢
  simp at h ⊢
  omega
theorem all_mapF {α : Type} {f : α → Int} {l : List α} (h : ∀ x ∈ l, fitsB (f x) = true) : (l.map f).all fitsB = true := by
  rw [List.all_eq_true]
  intro y hy
  obtain ⟨x, hx, rfl⟩ := List.mem_map.1 hy
  exact h x hx
/-- the balances at some accounts, added -/
def qSum (q : Int → Bool) (l : List (Int × Int)) : Int := sumI ((l.filter (fun x => q x.1)).map (·.2))
theorem qSum_cons (q : Int → Bool) (x : Int × Int) (l : List (Int × Int)) : qSum q (x :: l) = (if q x.1 then x.2 else 0) + qSum q l := by
  unfold qSum
  rw [List.filter_cons]
  cases q x.1 <;> simp [sumI]
theorem qSum_app (q : Int → Bool) : ∀ (a b : List (Int × Int)), qSum q (a ++ b) = qSum q a + qSum q b
  | [], b => by simp [qSum, sumI]
  | x :: a, b => by
    rw [List.cons_append, qSum_cons, qSum_app q a b, qSum_cons]
    omega
theorem qSum_put (q : Int → Bool) (k m : Int) : ∀ l, qSum q (putR l k m) = qSum q l + (if q k then m else 0)
  | [] => by
    unfold putR
    rw [qSum_cons]
    simp [qSum, sumI]
  | x :: r => by
    unfold putR
    split
    · rename_i h
      have h' : x.1 = k := by simpa using h
      rw [qSum_cons, qSum_cons]
      simp only [h']
      split <;> omega
    · split
      · rw [qSum_cons, qSum_cons]
        simp only
        omega
      · rw [qSum_cons, qSum_put q k m r, qSum_cons]
        omega
theorem qSum_ref (q : Int → Bool) (l : List (Int × Int)) : qSum q (refP l) = qSum q l := by
  have h : ∀ (l o : List (Int × Int)), qSum q (l.foldl (fun o x => putL o x.1 x.2) o) = qSum q o + qSum q l := by
    intro l
    induction l with
    | nil => intro o; simp [qSum, sumI]
    | cons x r ih =>
      intro o
      rw [List.foldl_cons, ih, putL_is, qSum_put, qSum_cons]
      omega
  unfold refP
  rw [h]
  simp [qSum, sumI]
theorem qSum_nz (q : Int → Bool) : ∀ (l : List (Int × Int)), qSum q (l.filter nzB) = qSum q l
  | [] => rfl
  | x :: r => by
    rw [List.filter_cons, qSum_cons]
    split
    · rw [qSum_cons, qSum_nz q r]
    · rename_i h
      have h0 : x.2 = 0 := by simpa [nzB] using h
      rw [qSum_nz q r, h0]
      split <;> omega
theorem qSum_bd (q : Int → Bool) : ∀ (l : List (Int × Int)), (∀ x ∈ l, fitsB x.2 = true) → -(1000000000000000 * (l.length : Int)) ≤ qSum q l ∧ qSum q l ≤ 1000000000000000 * (l.length : Int)
  | [], _ => by simp [qSum, sumI]
  | x :: r, h => by
    have ih := qSum_bd q r (fun y hy => h y (List.mem_cons_of_mem _ hy))
    have hx : -1000000000000000 ≤ x.2 ∧ x.2 ≤ 1000000000000000 := by
      have := h x (List.mem_cons_self ..)
      simpa [fitsB] using this
    rw [qSum_cons]
    simp only [List.length_cons]
    split <;> omega
/-- two kinds together are within the same bound -/
theorem qSum_bd2 (q q' : Int → Bool) (hq : ∀ k, q k = true → q' k = false) : ∀ (l : List (Int × Int)), (∀ x ∈ l, fitsB x.2 = true) → -(1000000000000000 * (l.length : Int)) ≤ qSum q l + qSum q' l ∧ qSum q l + qSum q' l ≤ 1000000000000000 * (l.length : Int)
  | [], _ => by simp [qSum, sumI]
  | x :: r, h => by
    have ih := qSum_bd2 q q' hq r (fun y hy => h y (List.mem_cons_of_mem _ hy))
    have hx : -1000000000000000 ≤ x.2 ∧ x.2 ≤ 1000000000000000 := by
      have := h x (List.mem_cons_self ..)
      simpa [fitsB] using this
    rw [qSum_cons, qSum_cons]
    simp only [List.length_cons]
    cases h1 : q x.1
    · simp only [Bool.false_eq_true, if_false]
      split <;> omega
    · rw [hq _ h1]
      simp only [Bool.false_eq_true, if_false, if_true]
      omega
theorem qSum_pick (r : List Ac) (k : Int) (l : List (Int × Int)) : sumI ((l.filter (pickB r [k])).map (·.2)) = qSum (kB r [k]) l := rfl

structure PartOk (q : Part) : Prop where
  l : ∀ x ∈ q.l, fitsB x.2 = true
  plug : fitsB q.plug = true
  out : fitsB q.out = true
  oth : fitsB q.oth = true
/-- all the parts' balances -/
def docX (PS : List Part) : List (Int × Int) := (PS.map (·.l)).flatten
def docG (r : List Ac) (PS : List Part) : GrpR :=
  ⟨(plainT (refP (docX PS))).1, sumI (PS.map (·.plug)), sumI (PS.map (·.out)), sumI (PS.map (·.oth)), qSum (kB r [1]) (docX PS), -qSum (kB r [2]) (docX PS), qSum (kB r [1]) (docX PS) - -qSum (kB r [2]) (docX PS) + sumI (PS.map (·.oth))⟩
def docF (r : List Ac) (PS : List Part) : Bool :=
  (plainT (refP (docX PS))).2 && (fitsB (docG r PS).plug && (fitsB (docG r PS).out && (fitsB (docG r PS).oth && (fitsB (docG r PS).owned && (fitsB (docG r PS).owed && fitsB (docG r PS).own)))))
theorem docX_fit {PS : List Part} (h : ∀ q ∈ PS, PartOk q) : ∀ x ∈ docX PS, fitsB x.2 = true := by
  intro x hx
  obtain ⟨l, hl, hxl⟩ := List.mem_flatten.1 hx
  obtain ⟨q, hq, rfl⟩ := List.mem_map.1 hl
  exact (h q hq).l x hxl
theorem plain_sum {l B : List (Int × Int)} (h : plainT (refP l) = (B, true)) (q : Int → Bool) : qSum q B = qSum q l := by
  unfold plainT at h
  split at h
  · injection h with h _
    rw [← h, qSum_nz, qSum_ref]
  · injection h with _ h
    cases h
set_option maxHeartbeats 4000000 in
theorem doc_put {r : List Ac} {PS : List Part} (h : ∀ q ∈ PS, PartOk q) : resT r PS = if docF r PS then (docG r PS, 0) else (grp0, 2) := by
  have hp := plus_ref (docX_fit h)
  obtain ⟨⟨B, eB⟩, hB⟩ : ∃ t, plusT (docX PS) = t := ⟨_, rfl⟩
  rw [hB] at hp
  simp only at hp
  have hB' : plusT ((PS.map (·.l)).flatten ++ []) = (B, eB) := by rw [List.append_nil]; exact hB
  obtain ⟨hf, _, he⟩ := plus_fits hB
  have hq1 : ∀ x ∈ [ (0 : Int) ], True := fun _ _ => trivial
  obtain ⟨⟨pl, e5⟩, h5⟩ : ∃ t, addM (PS.map (·.plug)) = t := ⟨_, rfl⟩
  obtain ⟨⟨ou, e6⟩, h6⟩ : ∃ t, addM (PS.map (·.out)) = t := ⟨_, rfl⟩
  obtain ⟨⟨ot, e7⟩, h7⟩ : ∃ t, addM (PS.map (·.oth)) = t := ⟨_, rfl⟩
  obtain ⟨⟨ow, e1⟩, h1⟩ : ∃ t, addM ((B.filter (pickB r [1])).map (·.2)) = t := ⟨_, rfl⟩
  obtain ⟨⟨od, e2⟩, h2⟩ : ∃ t, addM (negA (B.filter (pickB r [2]))) = t := ⟨_, rfl⟩
  obtain ⟨⟨on, e3⟩, h3⟩ : ∃ t, addM [ow, -od, ot] = t := ⟨_, rfl⟩
  have k5 := fit_cases (sumI (PS.map (·.plug)))
  rw [← all_fitS (all_mapF fun q hq => (h q hq).plug), h5] at k5
  have k6 := fit_cases (sumI (PS.map (·.out)))
  rw [← all_fitS (all_mapF fun q hq => (h q hq).out), h6] at k6
  have k7 := fit_cases (sumI (PS.map (·.oth)))
  rw [← all_fitS (all_mapF fun q hq => (h q hq).oth), h7] at k7
  have k1 := fit_cases (sumI ((B.filter (pickB r [1])).map (·.2)))
  rw [← all_fitS (all_mapF fun x hx => hf x (List.mem_filter.1 hx).1), h1] at k1
  have k2 := fit_cases (sumI (negA (B.filter (pickB r [2]))))
  have h0 : (negA (B.filter (pickB r [2]))).all fitsB = true := all_mapF fun x hx => fits_neg (hf x (List.mem_filter.1 hx).1)
  rw [← all_fitS h0, h2, sum_negA] at k2
  have f1 : fitsB ow = true := by have := addM_fit ((B.filter (pickB r [1])).map (·.2)); rw [h1] at this; exact this
  have f2 : fitsB od = true := by have := addM_fit (negA (B.filter (pickB r [2]))); rw [h2] at this; exact this
  have f7 : fitsB ot = true := by have := addM_fit (PS.map (·.oth)); rw [h7] at this; exact this
  have k3 := fit_cases (sumI [ow, -od, ot])
  rw [← all_fitS (by simp only [List.all_cons, List.all_nil, f1, fits_neg f2, f7, Bool.and_true]), h3] at k3
  rw [resT_is hB' h5 h6 h7 h1 h2 h3]
  clear h0 h1 h2 h3 h5 h6 h7 f1 f2 f7 hB' hf hB hq1
  have g1 : sumI ((B.filter (pickB r [1])).map (·.2)) = qSum (kB r [1]) B := rfl
  have g2 : sumI ((B.filter (pickB r [2])).map (·.2)) = qSum (kB r [2]) B := rfl
  rw [g1] at k1
  rw [g2] at k2
  unfold docF docG
  rcases he with rfl | rfl
  · rw [if_pos rfl] at hp
    rw [plain_sum hp (kB r [1])] at k1
    rw [plain_sum hp (kB r [2])] at k2
    rw [hp]
    simp only
    clear hp g1 g2 h
    simp only [sumI] at k3
    generalize qSum (kB r [1]) (docX PS) = S1 at *
    generalize qSum (kB r [2]) (docX PS) = S2 at *
    generalize sumI (PS.map (·.plug)) = S5 at *
    generalize sumI (PS.map (·.out)) = S6 at *
    generalize sumI (PS.map (·.oth)) = S7 at *
    rcases k5 with ⟨c5, d⟩ | ⟨c5, d⟩
    · obtain ⟨rfl, rfl⟩ := Prod.mk.inj d
      rcases k6 with ⟨c6, d⟩ | ⟨c6, d⟩
      · obtain ⟨rfl, rfl⟩ := Prod.mk.inj d
        rcases k7 with ⟨c7, d⟩ | ⟨c7, d⟩
        · obtain ⟨rfl, rfl⟩ := Prod.mk.inj d
          rcases k1 with ⟨c1, d⟩ | ⟨c1, d⟩
          · obtain ⟨rfl, rfl⟩ := Prod.mk.inj d
            rcases k2 with ⟨c2, d⟩ | ⟨c2, d⟩
            · obtain ⟨rfl, rfl⟩ := Prod.mk.inj d
              have e3' : ow + (- -S2 + (ot + 0)) = ow - -S2 + ot := by omega
              rw [e3'] at k3
              rcases k3 with ⟨c3, d⟩ | ⟨c3, d⟩
              · obtain ⟨rfl, rfl⟩ := Prod.mk.inj d
                rw [c5, c6, c7, c1, c2, c3]
                rfl
              · obtain ⟨rfl, rfl⟩ := Prod.mk.inj d
                rw [c5, c6, c7, c1, c2, c3]
                rfl
            · obtain ⟨rfl, rfl⟩ := Prod.mk.inj d
              rw [c5, c6, c7, c1, c2]
              rfl
          · obtain ⟨rfl, rfl⟩ := Prod.mk.inj d
            rw [c5, c6, c7, c1]
            rfl
        · obtain ⟨rfl, rfl⟩ := Prod.mk.inj d
          rw [c5, c6, c7]
          rfl
      · obtain ⟨rfl, rfl⟩ := Prod.mk.inj d
        rw [c5, c6]
        rfl
    · obtain ⟨rfl, rfl⟩ := Prod.mk.inj d
      rw [c5]
      rfl
  · rw [if_neg (by decide)] at hp
    rw [hp]
    rfl

theorem linT_err (ms : List Mb) (J : List Jn) (e p : Int) : (linT ms J e p).2 = 0 ∨ (linT ms J e p).2 = 2 := by
  unfold linT
  split
  · exact .inr rfl
  · split
    · exact .inr rfl
    · exact .inl rfl
theorem trnT_err (r : List Ac) (m : Mb) (l : List (Int × Int)) : (trnT r m l).2 = 0 ∨ (trnT r m l).2 = 2 := by
  unfold trnT
  split
  · exact .inr rfl
  · split
    · exact addM_err _
    · exact .inl rfl
theorem memN_err {e1 e2 e3 e4 e5 e6 : Int} (h1 : e1 = 0 ∨ e1 = 2) (h2 : e2 = 0 ∨ e2 = 2) (h3 : e3 = 0 ∨ e3 = 2) (h4 : e4 = 0 ∨ e4 = 2) (h5 : e5 = 0 ∨ e5 = 2) (h6 : e6 = 0 ∨ e6 = 2) : memN e1 e2 e3 e4 e5 e6 = 0 ∨ memN e1 e2 e3 e4 e5 e6 = 2 := by
  unfold memN
  split
  · exact h1
  · split
    · exact h2
    · split
      · exact h3
      · split
        · exact h4
        · split
          · exact h5
          · exact h6
theorem memN_zero {e1 e2 e3 e4 e5 e6 : Int} (h : memN e1 e2 e3 e4 e5 e6 = 0) : e1 = 0 ∧ e2 = 0 ∧ e3 = 0 ∧ e4 = 0 ∧ e5 = 0 ∧ e6 = 0 := by
  unfold memN at h
  obtain ⟨h1, h⟩ := if_ne0 h
  obtain ⟨h2, h⟩ := if_ne0 h
  obtain ⟨h3, h⟩ := if_ne0 h
  obtain ⟨h4, h⟩ := if_ne0 h
  obtain ⟨h5, h6⟩ := if_ne0 h
  exact ⟨h1, h2, h3, h4, h5, h6⟩
theorem memE_err (r : List Ac) (ms : List Mb) (J : List Jn) (p : Int) (m : Mb) : memE r ms J p m = 0 ∨ memE r ms J p m = 2 := by
  have hl := linT_err ms J m.en p
  obtain ⟨⟨⟨L, O⟩, e⟩, h1⟩ : ∃ t, linT ms J m.en p = t := ⟨_, rfl⟩
  rw [h1] at hl
  have ht := trnT_err r m L
  obtain ⟨⟨⟨tl, tp⟩, te⟩, h2⟩ : ∃ t, trnT r m L = t := ⟨_, rfl⟩
  rw [h2] at ht
  have hs := scaleT_err O m.cl 1000000
  obtain ⟨⟨s, es⟩, h3⟩ : ∃ t, scaleT O m.cl 1000000 = t := ⟨_, rfl⟩
  rw [h3] at hs
  have ha := addM_err (s :: tl.map (·.2))
  obtain ⟨⟨a, ea⟩, h4⟩ : ∃ t, addM (s :: tl.map (·.2)) = t := ⟨_, rfl⟩
  rw [h4] at ha
  have hb := addM_err ((s :: (tl.filter (shrB r)).map (·.2)) ++ [-a])
  obtain ⟨⟨b, eb⟩, h5⟩ : ∃ t, addM ((s :: (tl.filter (shrB r)).map (·.2)) ++ [-a]) = t := ⟨_, rfl⟩
  rw [h5] at hb
  have hx := scaleT_err b (10000 - m.sh) 10000
  obtain ⟨⟨x, ex⟩, h6⟩ : ∃ t, scaleT b (10000 - m.sh) 10000 = t := ⟨_, rfl⟩
  rw [h6] at hx
  rw [(memE_is h1 h2 h3 h4 h5 h6).1]
  exact memN_err hl ht hs ha hb hx
/-- what stands in the way of a member's part -/
theorem memE_no {r : List Ac} {ms : List Mb} {J : List Jn} {p : Int} {m : Mb} (h : memE r ms J p m = 0) : (linT ms J m.en p).2 = 0 ∧ (trnT r m (linT ms J m.en p).1.1).2 = 0 ∧ (scaleT (linT ms J m.en p).1.2 m.cl 1000000).2 = 0 := by
  obtain ⟨⟨⟨L, O⟩, e⟩, h1⟩ : ∃ t, linT ms J m.en p = t := ⟨_, rfl⟩
  obtain ⟨⟨⟨tl, tp⟩, te⟩, h2⟩ : ∃ t, trnT r m L = t := ⟨_, rfl⟩
  obtain ⟨⟨s, es⟩, h3⟩ : ∃ t, scaleT O m.cl 1000000 = t := ⟨_, rfl⟩
  rw [(memE_is h1 h2 h3 (a := (addM (s :: tl.map (·.2))).1) rfl rfl rfl).1] at h
  obtain ⟨q1, q2, q3, _⟩ := memN_zero h
  rw [h1]
  simp only [h2, h3]
  exact ⟨q1, q2, q3⟩
theorem trn_fit {r : List Ac} {m : Mb} {l : List (Int × Int)} : ∀ x ∈ trnL r m l, fitsB x.2 = true := by
  intro x hx
  unfold trnL at hx
  obtain ⟨y, _, rfl⟩ := List.mem_map.1 (List.mem_filter.1 hx).1
  exact scaleT_fitT
theorem doc_mem {r : List Ac} {ms : List Mb} {J : List Jn} {p : Int} {m : Mb} {L T : List (Int × Int)} {O tp o : Int} (hl : linT ms J m.en p = ((L, O), 0)) (ht : trnT r m L = ((T, tp), 0)) (hs : scaleT O m.cl 1000000 = (o, 0)) {al net : Int} (hall : o + sumI (T.map (·.2)) = al) (hnet : o + sumI ((T.filter (shrB r)).map (·.2)) - al = net) :
    (fitsB al = false → memE r ms J p m = 2) ∧ (fitsB al = true → fitsB net = false → memE r ms J p m = 2) ∧ (fitsB al = true → fitsB net = true → memE r ms J p m = (scaleT net (10000 - m.sh) 10000).2 ∧ memP r ms J p m = ⟨T, -al, o, (scaleT net (10000 - m.sh) 10000).1⟩) := by
  have hT : ∀ x ∈ T, fitsB x.2 = true := by rw [(trnT_ok ht).1]; exact trn_fit
  have ho : fitsB o = true := by have := scaleT_fitT (a := O) (n := m.cl) (d := 1000000); rw [hs] at this; exact this
  have h4 : addM (o :: T.map (·.2)) = fitS al := by
    rw [all_fitS (by rw [List.all_cons, ho, all_mapF hT]; rfl)]
    simp only [sumI]
    rw [hall]
  rcases fit_cases al with ⟨c, d⟩ | ⟨c, d⟩
  · rw [d] at h4
    have h5 : addM ((o :: (T.filter (shrB r)).map (·.2)) ++ [-al]) = fitS net := by
      rw [all_fitS (by rw [List.all_append, List.all_cons, ho, all_mapF (fun x hx => hT x (List.mem_filter.1 hx).1)]; simp [fits_neg c]), sumI_app]
      simp only [sumI]
      congr 1
      omega
    refine ⟨fun h => (by rw [c] at h; cases h), fun _ hn => ?_, fun _ hn => ?_⟩
    · rcases fit_cases net with ⟨c', d'⟩ | ⟨c', d'⟩
      · rw [c'] at hn; cases hn
      · rw [d'] at h5
        rw [(memE_is hl ht hs h4 h5 rfl).1]
        rfl
    · rcases fit_cases net with ⟨c', d'⟩ | ⟨c', d'⟩
      · rw [d'] at h5
        obtain ⟨q1, q2⟩ := memE_is hl ht hs h4 h5 rfl
        exact ⟨q1, q2 rfl⟩
      · rw [c'] at hn; cases hn
  · rw [d] at h4
    refine ⟨fun _ => ?_, fun h => (by rw [c] at h; cases h), fun h => (by rw [c] at h; cases h)⟩
    rw [(memE_is hl ht hs h4 rfl rfl).1]
    rfl
theorem memP_ok (r : List Ac) (ms : List Mb) (J : List Jn) (p : Int) (m : Mb) : PartOk (memP r ms J p m) :=
  ⟨trn_fit, fits_neg (addM_fit _), scaleT_fitT, scaleT_fitT⟩
theorem memsE_all (r : List Ac) (ms : List Mb) (J : List Jn) (p : Int) : ∀ l : List Mb, memsE r ms J p l = if l.all (fun m => memE r ms J p m == 0) then 0 else 2
  | [] => rfl
  | x :: t => by
    unfold memsE
    rw [List.all_cons]
    rcases memE_err r ms J p x with h | h
    · rw [h]
      exact memsE_all r ms J p t
    · rw [h]
      rfl
/-- the document's group: all of it, and does it fit -/
def docT (r : List Ac) (ms : List Mb) (J : List Jn) (p : Int) : GrpR × Bool := if ms.all (fun m => memE r ms J p m == 0) && docF r (ms.map (memP r ms J p)) then (docG r (ms.map (memP r ms J p)), true) else (grp0, false)
theorem doc_grp (r : List Ac) (ms : List Mb) (J : List Jn) (p : Int) : grpT r ms J p = if (docT r ms J p).2 then ((docT r ms J p).1, 0) else (grp0, 2) := by
  have hr : grpT r ms J p = if memsE r ms J p ms != 0 then (grp0, memsE r ms J p ms) else resT r (ms.map (memP r ms J p)) := rfl
  rw [hr, memsE_all, doc_put (fun q hq => by obtain ⟨m, _, rfl⟩ := List.mem_map.1 hq; exact memP_ok r ms J p m)]
  unfold docT
  cases ms.all (fun m => memE r ms J p m == 0)
  · rfl
  · cases docF r (ms.map (memP r ms J p))
    · rfl
    · rfl
theorem mem_sum {r : List Ac} {ms : List Mb} {J : List Jn} {p : Int} {m : Mb} (h : memE r ms J p m = 0) : (memP r ms J p m).plug + (memP r ms J p m).out + qSum (fun _ => true) (memP r ms J p m).l = 0 := by
  obtain ⟨q1, q2, q3⟩ := memE_no h
  obtain ⟨⟨⟨L, O⟩, e⟩, h1⟩ : ∃ t, linT ms J m.en p = t := ⟨_, rfl⟩
  rw [h1] at q1 q2 q3
  simp only at q1 q2 q3
  subst q1
  obtain ⟨⟨⟨tl, tp⟩, te⟩, h2⟩ : ∃ t, trnT r m L = t := ⟨_, rfl⟩
  rw [h2] at q2
  simp only at q2
  subst q2
  obtain ⟨⟨s, es⟩, h3⟩ : ∃ t, scaleT O m.cl 1000000 = t := ⟨_, rfl⟩
  rw [h3] at q3
  simp only at q3
  subst q3
  obtain ⟨d1, d2, d3⟩ := doc_mem h1 h2 h3 rfl rfl
  cases hf : fitsB (s + sumI (tl.map (·.2)))
  · rw [d1 hf] at h; cases h
  · cases hn : fitsB (s + sumI ((tl.filter (shrB r)).map (·.2)) - (s + sumI (tl.map (·.2))))
    · rw [d2 hf hn] at h; cases h
    · rw [(d3 hf hn).2]
      have hq : qSum (fun _ => true) tl = sumI (tl.map (·.2)) := by
        unfold qSum
        rw [List.filter_eq_self.2 (by simp)]
      simp only
      rw [hq]
      omega
/-- all of a group's parts come to 0 -/
theorem doc_sum {r : List Ac} {ms : List Mb} {J : List Jn} {p : Int} (h : (docT r ms J p).2 = true) : (docT r ms J p).1.plug + (docT r ms J p).1.out + sumI ((docT r ms J p).1.bal.map (·.2)) = 0 := by
  unfold docT at h ⊢
  split at h
  · rename_i hc
    rw [if_pos hc]
    rw [Bool.and_eq_true] at hc
    have hall : ∀ m ∈ ms, memE r ms J p m = 0 := by
      have := hc.1
      rw [List.all_eq_true] at this
      exact fun m hm => by simpa using this m hm
    have hpl : (plainT (refP (docX (ms.map (memP r ms J p))))).2 = true := by
      have := hc.2
      unfold docF at this
      rw [Bool.and_eq_true] at this
      exact this.1
    have hs := plain_sum (l := docX (ms.map (memP r ms J p))) (B := (plainT (refP (docX (ms.map (memP r ms J p))))).1) (Prod.ext rfl hpl) (fun _ => true)
    have hq : ∀ l : List (Int × Int), sumI (l.map (·.2)) = qSum (fun _ => true) l := fun l => by
      unfold qSum
      rw [List.filter_eq_self.2 (by simp)]
    unfold docG
    simp only
    rw [hq, hs]
    have hz : ∀ l : List Mb, (∀ m ∈ l, memE r ms J p m = 0) → sumI ((l.map (memP r ms J p)).map (·.plug)) + sumI ((l.map (memP r ms J p)).map (·.out)) + qSum (fun _ => true) (docX (l.map (memP r ms J p))) = 0 := by
      intro l
      induction l with
      | nil => intro _; rfl
      | cons x t ih =>
        intro hm
        have h1 := mem_sum (hm x (List.mem_cons_self ..))
        have h2 := ih (fun m hm' => hm m (List.mem_cons_of_mem _ hm'))
        unfold docX at h2 ⊢
        simp only [List.map_cons, sumI, List.flatten_cons]
        rw [qSum_app]
        omega
    exact hz ms hall
  · rename_i hc
    cases h
theorem docT_fit {r : List Ac} {ms : List Mb} {J : List Jn} {p : Int} : ∀ x ∈ (docT r ms J p).1.bal, fitsB x.2 = true := by
  unfold docT
  split
  · intro x hx
    unfold docG at hx
    simp only at hx
    unfold plainT at hx
    split at hx
    · rename_i h
      rw [List.all_eq_true] at h
      exact h x (List.mem_filter.1 hx).1
    · simp at hx
  · intro x hx
    simp [grp0] at hx
/-- what the document finds of a member's lines -/
theorem doc_lin {ms : List Mb} {J : List Jn} {e p : Int} (hb : ∀ x ∈ linesOf J e 0 p, -1000000000000000 ≤ x.amt ∧ x.amt ≤ 1000000000000000) (hl : (linesOf J e 0 p).length ≤ 8000) :
    ((plainT (refS (outL ms (linesOf J e 0 p)))).2 = true → fitsB (sumA (inL ms (linesOf J e 0 p))) = true → linT ms J e p = (((plainT (refS (outL ms (linesOf J e 0 p)))).1, sumA (inL ms (linesOf J e 0 p))), 0)) ∧
    ((plainT (refS (outL ms (linesOf J e 0 p)))).2 = false ∨ fitsB (sumA (inL ms (linesOf J e 0 p))) = false → (linT ms J e p).2 ≠ 0) := by
  have hr := ref_tell (ls := outL ms (linesOf J e 0 p)) (fun x hx => hb x (List.mem_filter.1 hx).1) (Nat.le_trans (List.length_filter_le _ _) hl)
  unfold linT
  rw [hr]
  cases h : (tellS (accS [] (outL ms (linesOf J e 0 p)))).all (fun x => fitsB x.2)
  · simp
  · cases h2 : fitsB (sumA (inL ms (linesOf J e 0 p)))
    · simp
    · simp
theorem shr_kind {r : List Ac} (hr : GoodA r) (x : Int × Int) : shrB r x = (kindA r x.1 != 1 && kindA r x.1 != 2) := by
  unfold shrB
  rcases kindA_bd hr x.1 with ⟨h1, h2⟩ | ⟨a, h1, h2, h3, h4⟩
  · rw [h1, h2]
    rfl
  · rw [h1, h2]
    have hk : a.kind = 1 ∨ a.kind = 2 ∨ a.kind = 3 ∨ a.kind = 4 ∨ a.kind = 5 := by omega
    rcases hk with hk | hk | hk | hk | hk <;> simp [hk]
theorem kB_kind (r : List Ac) (k c : Int) (h : k ≠ 0) : kB r [k] c = (kindA r c == k) := by
  have := congrFun (kindP_is r k h) (c, 0)
  unfold kB
  rw [← this]
  rfl
end Go.Proofs.YtgggpaacagbmcaaGreat


/- The document's members of a group: how they lie; is an entity one of them. -/
set_option linter.unusedVariables false
set_option linter.unusedSimpArgs false
namespace Go.Proofs.YtgggpaacagbmcaaGreat
open Go.RowKit Go.Maps Go.Deep

set_option maxRecDepth 100000 in
theorem arr3_of {H : Type} {enc : TypeId × Value → H} {w : World} {fuel : Nat} {cs : List Value} {d : DataW H} {ps : List MemPlace} (h1 : DataW.trod enc Tryz.prog w 0 (fun _ => true) true fuel 75 cs = some (d, ps)) :
    ∃ x : Int × Int × Int, cs = [.int .i64 x.1, .int .i64 x.2.1, .int .i64 x.2.2] ∧ I64 x.1 ∧ I64 x.2.1 ∧ I64 x.2.2 := by
  obtain ⟨xs, m, _, _, hl, hxl, hel⟩ := DataW.trod_array Tryz.underlying75 h1
  have hc1 : Tryz.prog.cellsOf 3 = 1 := by kernel_rfl
  have hc3 : Tryz.prog.cellsOf 75 = 3 := by kernel_rfl
  rw [hc3] at hl
  obtain ⟨c0, c1, c2, rfl⟩ : ∃ c0 c1 c2, cs = [c0, c1, c2] := by
    match cs, hl with
    | [a, b, c], _ => exact ⟨a, b, c, rfl⟩
  obtain ⟨y0, hy0⟩ : ∃ y, xs[0]? = some y := ⟨_, List.getElem?_eq_getElem (by omega)⟩
  obtain ⟨y1, hy1⟩ : ∃ y, xs[1]? = some y := ⟨_, List.getElem?_eq_getElem (by omega)⟩
  obtain ⟨y2, hy2⟩ : ∃ y, xs[2]? = some y := ⟨_, List.getElem?_eq_getElem (by omega)⟩
  have h0 := hel 0 (by decide)
  have h1 := hel 1 (by decide)
  have h2 := hel 2 (by decide)
  rw [hc1, hy0] at h0
  rw [hc1, hy1] at h1
  rw [hc1, hy2] at h2
  obtain ⟨x0, hx0, _, w0⟩ := DataW.trod_int Tryz.underlying3 h0
  obtain ⟨x1, hx1, _, w1⟩ := DataW.trod_int Tryz.underlying3 h1
  obtain ⟨x2, hx2, _, w2⟩ := DataW.trod_int Tryz.underlying3 h2
  simp at hx0 hx1 hx2
  subst hx0
  subst hx1
  subst hx2
  exact ⟨(x0, x1, x2), rfl, w0, w1, w2⟩
def tA3 : Ty Tryz.prog 75 (Int × Int × Int) where
  n := 3
  R := fun _ _ cs x => cs = [.int .i64 x.1, .int .i64 x.2.1, .int .i64 x.2.2] ∧ I64 x.1 ∧ I64 x.2.1 ∧ I64 x.2.2
  hn := by kernel_rfl
  len := by rintro _ _ _ _ ⟨rfl, _⟩; rfl
  keep := fun _ h => h
  mono := fun _ h => h
  of := fun h1 _ => arr3_of h1
def fRm : Flds Tryz.prog [fld "Entity" 3 0 0, fld "Share" 3 1 8, fld "Rates" 75 2 16] 0 (Int × Int × (Int × Int × Int) × Unit) :=
  Flds.cons (f := fld "Entity" 3 0 0) tInt rfl (Flds.cons (f := fld "Share" 3 1 8) tInt rfl (Flds.cons (f := fld "Rates" 75 2 16) tA3 rfl (Flds.nil _ _)))
def Mb.mkR (x : Int × Int × (Int × Int × Int) × Unit) : Mb := ⟨x.1, x.2.1, x.2.2.1.1, x.2.2.1.2.1, x.2.2.1.2.2⟩
def tRm : Ty Tryz.prog 90 Mb := (Ty.struct Tryz.underlying90 fRm (by kernel_rfl)).map Mb.mkR
theorem tRm_n : tRm.n = 5 := rfl
theorem rm_inv {w : World} {F : Nat → Prop} {cs : List Value} {m : Mb} (h : tRm.R w F cs m) : cs = mbC m ∧ m.wf := by
  obtain ⟨x, rfl, c1, c2, rfl, ⟨rfl, h1⟩, c3, c4, rfl, ⟨rfl, h2⟩, c5, c6, rfl, ⟨rfl, h3, h4, h5⟩, rfl⟩ := h
  exact ⟨rfl, h1, h2, h3, h4, h5⟩
theorem rm_mk {w : World} {F : Nat → Prop} (m : Mb) (h : m.wf) : tRm.R w F (mbC m) m :=
  ⟨(m.en, m.sh, (m.cl, m.av, m.ol), ()), rfl, [_], [_, _, _, _], rfl, ⟨rfl, h.1⟩, [_], [_, _, _], rfl, ⟨rfl, h.2.1⟩, [_, _, _], [], rfl, ⟨rfl, h.2.2.1, h.2.2.2.1, h.2.2.2.2⟩, rfl⟩
theorem rm_free (w : World) (F G : Nat → Prop) (c : List Value) (m : Mb) (h : tRm.R w F c m) : tRm.R w G c m := by
  obtain ⟨rfl, hw⟩ := rm_inv h
  exact rm_mk m hw
theorem rm_one (w : World) (F : Nat → Prop) (c : List Value) (m : Mb) (h : tRm.R w F c m) : ∀ u ∈ c, u.oneCell' = true := by
  obtain ⟨rfl, _⟩ := rm_inv h
  simp [mbC, Value.oneCell']
theorem rm_at {w : World} {F : Nat → Prop} {a : Option Addr} {l : List Mb} (h : Sl tRm w F a l) (i : Nat) (hi : i < l.length) :
    ∃ ad, a = some ad ∧ F ad.block ∧ ad.block < w.heap.size ∧ w.cell? (ad.add (i * 5)) = some (.int .i64 l[i].en) ∧ w.cell? ⟨(ad.add (i * 5)).block, (ad.add (i * 5)).off + 1, none⟩ = some (.int .i64 l[i].sh) ∧
      w.cell? ⟨(ad.add (i * 5)).block, (ad.add (i * 5)).off + 2, none⟩ = some (.int .i64 l[i].cl) ∧ w.cell? ⟨(ad.add (i * 5)).block, (ad.add (i * 5)).off + 3, none⟩ = some (.int .i64 l[i].av) ∧
      w.cell? ⟨(ad.add (i * 5)).block, (ad.add (i * 5)).off + 4, none⟩ = some (.int .i64 l[i].ol) ∧ l[i].wf := by
  obtain ⟨ad, ces, rfl, hf, hlt, hc, hr⟩ := h i l[i] (List.getElem?_eq_getElem hi)
  obtain ⟨rfl, h1⟩ := rm_inv hr
  rw [tRm_n] at hc
  refine ⟨ad, rfl, hf, hlt, ?_, ?_, ?_, ?_, ?_, h1⟩
  · have := hc 0 _ rfl
    simpa [Addr.add] using this
  · have := hc 1 _ rfl
    rw [Addr.add] at this
    simpa using this
  · have := hc 2 _ rfl
    rw [Addr.add] at this
    simpa using this
  · have := hc 3 _ rfl
    rw [Addr.add] at this
    simpa using this
  · have := hc 4 _ rfl
    rw [Addr.add] at this
    simpa using this

set_option maxHeartbeats 2000000 in
set_option maxRecDepth 100000 in
theorem r10Member_any (l : List Mb) (a : Option Addr) (cap : Nat) (e : Int) (w : World) {F : Nat → Prop} (hs : Sl tRm w F a l) (hl : l.length ≤ maxLen) :
    Calls Tryz.prog 32 #[.slice a l.length cap, .int .i64 e] w fun en w' => en = .returned (.bool (innB l e)) ∧ w' = w := by
  have HS := Lib.hid hs
  have hl' : l.length ≤ 9223372036854775807 := by unfold maxLen at hl; omega
  clear hs hl
  generalize hres : innB l e = res
  have HR := Lib.hid hres
  clear hres
  go_enter Tryz.func32, Tryz.ntmps32
  go_wp2_with fail
  go_loopw [5] (fun vi wr => ∃ n : Nat, n ≤ l.length ∧ vi = .int .i64 n ∧ Hid ((l.take n).any (fun m => m.en == e) = false) ∧ wr = w) (fun vi _ => l.length - (intOf vi).toNat)
  case atStart => exact ⟨0, Nat.zero_le _, rfl, Lib.hid rfl, rfl⟩
  case round =>
    obtain ⟨n, hn, rfl, hany, rfl⟩ := hrel
    by_cases hlt : n < l.length
    · obtain ⟨ad, rfl, _, hadl, hc0, hc1, hc2, hc3, hc4, _⟩ := rm_at HS.out n hlt
      have HAT := Lib.hid (any_at (fun m : Mb => m.en == e) l n hlt)
      have HSU := Lib.hid (any_take_succ (fun m : Mb => m.en == e) l n hlt)
      generalize l[n] = m at *
      clear hc1 hc2 hc3 hc4
      obtain ⟨x, hx⟩ : ∃ x, m.en = x := ⟨_, rfl⟩
      rw [hx] at hc0
      have HX := Lib.hid hx
      clear hx
      by_cases hv : x = e
      · have HRR : Hid (res = true) := Lib.hid (by rw [← HR.out]; exact HAT.out (by simp [HX.out, hv]))
        go_wp2_with fail
        go_ret
        rw [HRR.out]
        exact ⟨rfl, rfl⟩
      · have HN : Hid (((l.take (n + 1)).any fun m => m.en == e) = false) := Lib.hid (by rw [HSU.out, hany.out]; simp [HX.out, hv])
        go_wp2_with fail
        go_roundw
        case rel => exact ⟨n + 1, by omega, by go_num, HN, by first | trivial | rfl⟩
        case measure => simp [intOf]; omega
    · have hr : res = false := by
        rw [← HR.out]
        have := hany.out
        rwa [take_all hn hlt] at this
      have HRR := Lib.hid hr
      clear hr
      go_wp2_with fail
      go_ret
      rw [HRR.out]
      exact ⟨rfl, rfl⟩
end Go.Proofs.YtgggpaacagbmcaaGreat
