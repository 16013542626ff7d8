/- Plain: both sides of a sheet are the same: the lines of every journal come to 0. -/
import Derived.Test.YtgggpaacagbmcaaGreatX25GroupInner
import Derived.Test.YtgggpaacagbmcaaGreatX21GroupInner
set_option linter.unusedVariables false
set_option linter.unusedSimpArgs false
namespace Go.Proofs.YtgggpaacagbmcaaGreat
open Go.RowKit Go.Maps Go.Deep

theorem sumQ_true : ∀ (L : List Ln), sumQ (fun _ => true) L = sumA L
  | [] => rfl
  | x :: r => by simp only [sumQ, sumA, sumQ_true r, if_true]
theorem chk_sumA {j : Jn} (h : chk j = 0) : sumA j.lines = 0 := by
  unfold chk at h
  by_cases h0 : sumA j.lines = 0
  · exact h0
  · have h1 : (sumA j.lines != 0) = true := by simpa using h0
    rw [h1] at h
    split at h
    · cases h
    · split at h
      · cases h
      · split at h
        · cases h
        · split at h <;> cases h
theorem lines_zero {J : List Jn} (h : ∀ x ∈ J, chk x = 0) (e f t : Int) : sumQ (fun _ => true) (linesOf J e f t) = 0 := by
  induction J with
  | nil => rfl
  | cons j r ih =>
    have ih := ih (fun x hx => h x (List.mem_cons_of_mem _ hx))
    unfold linesOf at ih ⊢
    rw [List.filter_cons]
    split
    · rw [List.flatMap_cons, sumQ_app, ih, sumQ_true, chk_sumA (h j (List.mem_cons_self ..))]
      rfl
    · exact ih
/-- the accounts that are none -/
def outK (r : List Ac) (c : Int) : Bool := (findA r c).isNone
theorem kind_one {r : List Ac} (hr : GoodA r) (c m : Int) : (if kB r [1] c then m else 0) + (if kB r [2] c then m else 0) + (if kB r [3] c then m else 0) + (if kB r [4] c then m else 0) + (if kB r [5] c then m else 0) + (if outK r c then m else 0) = m := by
  unfold kB pickB outK
  cases h : findA r c with
  | none => simp [h]
  | some a =>
    have h1 := hr.ok a (find_mem h)
    unfold rowB at h1
    simp at h1
    obtain ⟨_, _, h2, h3⟩ := h1
    have hk : a.kind = 1 ∨ a.kind = 2 ∨ a.kind = 3 ∨ a.kind = 4 ∨ a.kind = 5 := by omega
    rcases hk with hk | hk | hk | hk | hk <;> simp [h, hk]
theorem sumQ_all {r : List Ac} (hr : GoodA r) : ∀ (L : List Ln), sumQ (kB r [1]) L + sumQ (kB r [2]) L + sumQ (kB r [3]) L + sumQ (kB r [4]) L + sumQ (kB r [5]) L + sumQ (outK r) L = sumQ (fun _ => true) L
  | [] => rfl
  | x :: s => by
    have ih := sumQ_all hr s
    have h := kind_one hr x.acc x.amt
    simp only [sumQ, if_true]
    omega
theorem bal_zero {J : List Jn} {e f t : Int} (h : (balT J e f t).2 = 0) : (balT J e f t).1 = accR J e f t := by
  rcases balT_cases J e f t with hb | hb | ⟨_, _, hb⟩
  · rw [hb] at h; cases h
  · rw [hb] at h; cases h
  · rw [hb]
theorem ret_sum {r : List Ac} {J : List Jn} (hV : ValJ J) {e p : Int} (hp : 0 ≤ p) (h1 : (retT r J e p).2 = 0) (h2 : (curT r J e p).2 = 0) : (retT r J e p).1 + (curT r J e p).1 = -sumQ (kB r [4]) (linesOf J e 0 p) - sumQ (kB r [5]) (linesOf J e 0 p) := by
  have hj0 : 0 ≤ janOf p := by unfold janOf; omega
  have hjp : janOf p ≤ p := by unfold janOf; omega
  have hc : (curT r J e p).1 = -sumQ (kB r [4]) (linesOf J e (janOf p) p) - sumQ (kB r [5]) (linesOf J e (janOf p) p) := net_sum hV h2
  have hr : (retT r J e p).1 = -sumQ (kB r [4]) (linesOf J e 0 (janOf p - 1)) - sumQ (kB r [5]) (linesOf J e 0 (janOf p - 1)) := by
    by_cases hj : janOf p = 0
    · have : (retT r J e p).1 = 0 := by unfold retT; rw [hj]; rfl
      rw [this, hj, show (0 : Int) - 1 = -1 from rfl, lines_none]
      rfl
    · have hb : (janOf p == 0) = false := by simpa using hj
      unfold retT at h1 ⊢
      rw [hb] at h1 ⊢
      exact net_sum hV h1
  rw [hc, hr, lines_split (kB r [4]) e 0 (janOf p) p hj0 (by omega), lines_split (kB r [5]) e 0 (janOf p) p hj0 (by omega)]
  omega
/-- the five other sums as sums over lines -/
theorem sh_sums {r : List Ac} {J : List Jn} (hV : ValJ J) {e p : Int} (h : (shT r J e p).2 = 0) :
    (shT r J e p).1.1 = sumQ (kB r [1]) (linesOf J e 0 p) ∧ (shT r J e p).1.2.1 = -sumQ (kB r [2]) (linesOf J e 0 p) ∧ (shT r J e p).1.2.2.1 = -sumQ (kB r [3]) (linesOf J e 0 p) ∧ (shT r J e p).1.2.2.2.2.2 = -sumQ (outK r) (linesOf J e 0 p) := by
  obtain ⟨hE, hv⟩ := shT_ok h
  obtain ⟨g0, g1, g2, g3, g4, g5, g6⟩ := shE_ok hE
  rw [hv]
  simp only
  have hb := bal_zero g0
  refine ⟨?_, ?_, ?_, ?_⟩
  · unfold owT at g1 ⊢
    rw [addM_ok g1, hb, pickB_k, accR_sum hV e 0 p (kB r [1])]
  · unfold oeT at g2 ⊢
    rw [addM_ok g2, neg_sum, hb, pickB_k, accR_sum hV e 0 p (kB r [2])]
  · unfold heT at g3 ⊢
    rw [addM_ok g3, neg_sum, hb, pickB_k, accR_sum hV e 0 p (kB r [3])]
  · unfold otT at g6 ⊢
    rw [addM_ok g6, show othL r (balT J e 0 p).1 = ((balT J e 0 p).1.filter (outB r)).map negB from rfl, neg_sum, hb, show outB r = fun x => outK r x.1 from rfl, accR_sum hV e 0 p (outK r)]
/-- both sides of a sheet -/
theorem sh_holds {r : List Ac} (hr : GoodA r) {J : List Jn} (hV : ValJ J) {e p : Int} (h : (shT r J e p).2 = 0) :
    (shT r J e p).1.1 = (shT r J e p).1.2.1 + (shT r J e p).1.2.2.1 + (shT r J e p).1.2.2.2.1 + (shT r J e p).1.2.2.2.2.1 + (shT r J e p).1.2.2.2.2.2 := by
  obtain ⟨h1, h2, h3, h4⟩ := sh_sums hV h
  obtain ⟨hE, hv⟩ := shT_ok h
  obtain ⟨g0, _, _, _, g4, g5, _⟩ := shE_ok hE
  have hp : 0 ≤ p := by
    have hrt : rightB e 0 p = true := by
      cases h : rightB e 0 p with
      | true => rfl
      | false => unfold balT at g0; rw [h] at g0; cases g0
    exact (right_month hrt).2.1
  have h5 := ret_sum hV hp g4 g5
  have h6 : (shT r J e p).1.2.2.2.1 = (retT r J e p).1 := by rw [hv]
  have h7 : (shT r J e p).1.2.2.2.2.1 = (curT r J e p).1 := by rw [hv]
  have h8 := sumQ_all hr (linesOf J e 0 p)
  rw [lines_zero hV.ok] at h8
  omega
end Go.Proofs.YtgggpaacagbmcaaGreat


/- Plain: a group's balance sheet; one member alone. -/
set_option linter.unusedVariables false
set_option linter.unusedSimpArgs false
namespace Go.Proofs.YtgggpaacagbmcaaGreat
open Go.RowKit Go.Maps Go.Deep

/-- is a balance partly that of other owners? -/
def shrB (r : List Ac) (x : Int × Int) : Bool := match findA r x.1 with | some a => a.kind == 3 || (a.kind == 4 || a.kind == 5) | none => true
/-- what one member brings: balances, the plug, what was taken out, what is others' -/
structure Part where
  l : List (Int × Int)
  plug : Int
  out : Int
  oth : Int
def memE (r : List Ac) (ms : List Mb) (J : List Jn) (p : Int) (m : Mb) : Int :=
  if (linT ms J m.en p).2 != 0 then (linT ms J m.en p).2 else if !trnB r m (linT ms J m.en p).1.1 then 2 else
  if (addM ((trnL r m (linT ms J m.en p).1.1).map (·.2))).2 != 0 then (addM ((trnL r m (linT ms J m.en p).1.1).map (·.2))).2 else
  if (scaleT (linT ms J m.en p).1.2 m.cl 1000000).2 != 0 then (scaleT (linT ms J m.en p).1.2 m.cl 1000000).2 else
  if (addM ((scaleT (linT ms J m.en p).1.2 m.cl 1000000).1 :: (trnL r m (linT ms J m.en p).1.1).map (·.2))).2 != 0 then (addM ((scaleT (linT ms J m.en p).1.2 m.cl 1000000).1 :: (trnL r m (linT ms J m.en p).1.1).map (·.2))).2 else
  if (addM ((scaleT (linT ms J m.en p).1.2 m.cl 1000000).1 :: ((trnL r m (linT ms J m.en p).1.1).filter (shrB r)).map (·.2) ++ [-(addM ((scaleT (linT ms J m.en p).1.2 m.cl 1000000).1 :: (trnL r m (linT ms J m.en p).1.1).map (·.2))).1])).2 != 0 then (addM ((scaleT (linT ms J m.en p).1.2 m.cl 1000000).1 :: ((trnL r m (linT ms J m.en p).1.1).filter (shrB r)).map (·.2) ++ [-(addM ((scaleT (linT ms J m.en p).1.2 m.cl 1000000).1 :: (trnL r m (linT ms J m.en p).1.1).map (·.2))).1])).2 else
  (scaleT (addM ((scaleT (linT ms J m.en p).1.2 m.cl 1000000).1 :: ((trnL r m (linT ms J m.en p).1.1).filter (shrB r)).map (·.2) ++ [-(addM ((scaleT (linT ms J m.en p).1.2 m.cl 1000000).1 :: (trnL r m (linT ms J m.en p).1.1).map (·.2))).1])).1 (10000 - m.sh) 10000).2
def memP (r : List Ac) (ms : List Mb) (J : List Jn) (p : Int) (m : Mb) : Part :=
  let l := trnL r m (linT ms J m.en p).1.1
  let o := (scaleT (linT ms J m.en p).1.2 m.cl 1000000).1
  let s := (addM (o :: l.map (·.2))).1
  ⟨l, -s, o, (scaleT (addM (o :: (l.filter (shrB r)).map (·.2) ++ [-s])).1 (10000 - m.sh) 10000).1⟩
/-- the balances of a list that is in order, told again -/
theorem plus_self {l : List (Int × Int)} (h : l.Pairwise (fun x y => x.1 < y.1)) (hf : ∀ x ∈ l, fitsB x.2 = true) (hz : ∀ x ∈ l, x.2 ≠ 0) : plusT l = (l, 0) := by
  have hg : ∀ k, (grpOf l k).all fitsB = true ∧ fitsB (sumI (grpOf l k)) = true := fun k => by
    rcases grpOf_rise h k with ⟨v, hv, e⟩ | ⟨_, e⟩
    · rw [e]
      have := hf _ hv
      simp only [List.all_cons, List.all_nil, Bool.and_true, sumI]
      rw [show v + 0 = v from by omega]
      exact ⟨this, this⟩
    · rw [e]
      exact ⟨rfl, rfl⟩
  obtain ⟨p1, p2, p3⟩ := plusT_ok hg
  have : (plusT l).1 = l := rise_ext p2 h (fun x => by
    rw [p3]
    rcases grpOf_rise h x.1 with ⟨v, hv, e⟩ | ⟨hn, e⟩
    · rw [e]
      simp only [sumI]
      constructor
      · rintro ⟨h1, _⟩
        have : v = x.2 := by omega
        rw [this] at hv
        exact hv
      · intro hx
        have hxv : grpOf l x.1 = [x.2] := by
          rcases grpOf_rise h x.1 with ⟨v', hv', e'⟩ | ⟨hn', _⟩
          · have hn := rise_nodup h
            have h1 := look_memY hn hx
            have h2 := look_memY hn hv'
            have : v' = x.2 := by rw [← h1, ← h2]
            rw [e', this]
          · exact absurd hx (hn' x.2)
        rw [hxv] at e
        injection e with e _
        exact ⟨by omega, hz x hx⟩
    · rw [e]
      constructor
      · rintro ⟨h1, h2⟩
        exact absurd h1.symm (by simpa [sumI] using h2)
      · intro hx
        exact absurd hx (hn x.2))
  exact Prod.ext this p1
/-- rates that are one for one -/
def oneM (e sh : Int) : Mb := ⟨e, sh, 1000000, 1000000, 1000000⟩
theorem trn_one (r : List Ac) (e sh : Int) {l : List (Int × Int)} (hf : ∀ x ∈ l, fitsB x.2 = true) (hz : ∀ x ∈ l, x.2 ≠ 0) : trnL r (oneM e sh) l = l ∧ trnB r (oneM e sh) l = true := by
  have hr : ∀ k, rateK (oneM e sh) k = 1000000 := fun k => by unfold rateK oneM; split; rfl; split <;> rfl
  constructor
  · unfold trnL
    have : l.map (fun x => (x.1, (scaleT x.2 (rateK (oneM e sh) (kindA r x.1)) 1000000).1)) = l := by
      conv => rhs; rw [← List.map_id l]
      refine List.map_congr_left (fun x hx => ?_)
      rw [hr, scale_same (hf x hx) (by decide)]
      rfl
    rw [this, List.filter_eq_self]
    intro x hx
    simpa using hz x hx
  · unfold trnB
    rw [List.all_eq_true]
    intro x hx
    rw [hr, scale_same (hf x hx) (by decide)]
    rfl
end Go.Proofs.YtgggpaacagbmcaaGreat


/- Plain: a group of one member, in its own money. -/
set_option linter.unusedVariables false
set_option linter.unusedSimpArgs false
namespace Go.Proofs.YtgggpaacagbmcaaGreat
open Go.RowKit Go.Maps Go.Deep

theorem lines_parE {l : List Jn} (h : ValJ l) (e f t : Int) : ∀ x ∈ linesOf l e f t, x.par ≠ e := by
  intro x hx
  obtain ⟨j, hj, hxj⟩ := List.mem_flatMap.1 hx
  have hc := h.ok j (List.mem_filter.1 hj).1
  have hcnt := (List.mem_filter.1 hj).2
  have hje : j.en = e := by unfold cnt at hcnt; simp at hcnt; exact hcnt.2.1
  have hrow : j.lines.any (rowBad j.en) = false := by
    cases hh : j.lines.any (rowBad j.en) with
    | false => rfl
    | true =>
      unfold chk at hc
      rw [hh] at hc
      revert hc
      split
      · intro h; cases h
      · split
        · intro h; cases h
        · intro h; simp at h
  rw [List.any_eq_false] at hrow
  have := hrow x hxj
  unfold rowBad at this
  simp at this
  rw [hje] at this
  exact this.2
theorem one_parts {J : List Jn} (hV : ValJ J) (e sh p : Int) : outL [oneM e sh] (linesOf J e 0 p) = linesOf J e 0 p ∧ inL [oneM e sh] (linesOf J e 0 p) = [] := by
  have h : ∀ x ∈ linesOf J e 0 p, innB [oneM e sh] x.par = false := fun x hx => by
    have := lines_parE hV e 0 p x hx
    unfold innB oneM
    simp
    omega
  constructor
  · unfold outL
    rw [List.filter_eq_self]
    intro x hx
    rw [h x hx]
    rfl
  · unfold inL
    rw [List.filter_eq_nil_iff]
    intro x hx
    rw [h x hx]
    simp
/-- one member's sums are its balances -/
theorem lin_one {J : List Jn} (hV : ValJ J) (e sh p : Int) : linT [oneM e sh] J e p = if (accR J e 0 p).all (fun x => fitsB x.2) then ((accR J e 0 p, 0), 0) else (([], 0), 2) := by
  obtain ⟨h1, h2⟩ := one_parts hV e sh p
  unfold linT
  rw [h1, h2]
  have : tellS (accS [] (linesOf J e 0 p)) = accR J e 0 p := rfl
  rw [this]
  cases (accR J e 0 p).all (fun x => fitsB x.2) <;> rfl
/-- what is others' if all of it is -/
def shrS (r : List Ac) (J : List Jn) (e p : Int) : Int := sumI (((accR J e 0 p).filter (shrB r)).map (·.2))
theorem mem_one {r : List Ac} {J : List Jn} (hV : ValJ J) {e p sh : Int} (h : memE r [oneM e sh] J p (oneM e sh) = 0) :
    (accR J e 0 p).all (fun x => fitsB x.2) = true ∧ fitsB (shrS r J e p) = true ∧ (scaleT (shrS r J e p) (10000 - sh) 10000).2 = 0 ∧ memP r [oneM e sh] J p (oneM e sh) = ⟨accR J e 0 p, 0, 0, (scaleT (shrS r J e p) (10000 - sh) 10000).1⟩ := by
  have hen : (oneM e sh).en = e := rfl
  have hcl : (oneM e sh).cl = 1000000 := rfl
  have hsh : (oneM e sh).sh = sh := rfl
  cases hall : (accR J e 0 p).all (fun x => fitsB x.2)
  · unfold memE at h
    rw [hen, lin_one hV, hall] at h
    cases h
  · have hf : ∀ x ∈ accR J e 0 p, fitsB x.2 = true := by simpa [List.all_eq_true] using hall
    have hz : ∀ x ∈ accR J e 0 p, x.2 ≠ 0 := fun x hx => ((accR_mem hV).1 hx).2
    obtain ⟨t1, t2⟩ := trn_one r e sh hf hz
    have hs0 : sumI ((accR J e 0 p).map (·.2)) = 0 := by
      have hs := accR_sum hV e 0 p (fun _ => true)
      rw [lines_zero hV.ok, List.filter_eq_self.2 (by simp)] at hs
      exact hs
    have hsc : scaleT 0 1000000 1000000 = (0, 0) := scale_same (by decide) (by decide)
    have hfm : ((accR J e 0 p).map (·.2)).all fitsB = true := by
      rw [List.all_eq_true]
      intro y hy
      obtain ⟨x, hx, rfl⟩ := List.mem_map.1 hy
      exact hf x hx
    have hfs : (((accR J e 0 p).filter (shrB r)).map (·.2)).all fitsB = true := by
      rw [List.all_eq_true]
      intro y hy
      obtain ⟨x, hx, rfl⟩ := List.mem_map.1 hy
      exact hf x (List.mem_filter.1 hx).1
    have ha1 : addM ((accR J e 0 p).map (·.2)) = (0, 0) := by
      unfold addM
      rw [hfm, hs0]
      rfl
    have ha2 : addM (0 :: (accR J e 0 p).map (·.2)) = (0, 0) := by
      unfold addM
      rw [List.all_cons, hfm]
      simp only [sumI, hs0]
      rfl
    have ha3 : addM (0 :: ((accR J e 0 p).filter (shrB r)).map (·.2) ++ [-0]) = fitS (shrS r J e p) := by
      unfold addM shrS
      rw [List.all_append, List.all_cons, hfs]
      rw [sumI_app]
      simp only [sumI]
      have e1 : ((0 : Int) + sumI (((accR J e 0 p).filter (shrB r)).map (·.2)) + (-0 + 0)) = sumI (((accR J e 0 p).filter (shrB r)).map (·.2)) := by omega
      rw [e1]
      rfl
    have hlin : linT [oneM e sh] J (oneM e sh).en p = ((accR J e 0 p, 0), 0) := by rw [hen, lin_one hV, hall]; rfl
    have hE : memE r [oneM e sh] J p (oneM e sh) = if (fitS (shrS r J e p)).2 != 0 then (fitS (shrS r J e p)).2 else (scaleT (fitS (shrS r J e p)).1 (10000 - sh) 10000).2 := by
      unfold memE
      rw [hlin, hcl, hsh]
      simp only [t1, t2, ha1, hsc, ha2, ha3]
      rfl
    have hP : memP r [oneM e sh] J p (oneM e sh) = ⟨accR J e 0 p, 0, 0, (scaleT (fitS (shrS r J e p)).1 (10000 - sh) 10000).1⟩ := by
      unfold memP
      rw [hlin, hcl, hsh]
      simp only [t1, hsc, ha2, ha3]
      rfl
    rw [hE] at h
    cases hfit : fitsB (shrS r J e p)
    · unfold fitS at h
      rw [hfit] at h
      cases h
    · have hF : fitS (shrS r J e p) = (shrS r J e p, 0) := by unfold fitS; rw [hfit]; rfl
      rw [hF] at h hP
      exact ⟨rfl, rfl, by simpa using h, hP⟩
end Go.Proofs.YtgggpaacagbmcaaGreat
