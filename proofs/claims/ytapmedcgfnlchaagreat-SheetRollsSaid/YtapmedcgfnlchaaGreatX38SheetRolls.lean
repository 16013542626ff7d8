/- Plain: what is left, as a sum over lines. -/
import Derived.Test.YtapmedcgfnlchaaGreatX36SheetRolls
import Derived.Test.YtapmedcgfnlchaaGreatX37SheetRolls
set_option linter.unusedVariables false
set_option linter.unusedSimpArgs false
namespace Go.Proofs.YtapmedcgfnlchaaGreat
open Go.RowKit Go.Maps Go.Deep

theorem sumI_perm {a b : List Int} (h : a.Perm b) : sumI a = sumI b := by
  induction h with
  | nil => rfl
  | cons x _ ih => simp only [sumI, ih]
  | swap x y l => simp only [sumI]; omega
  | trans _ _ h1 h2 => exact h1.trans h2
/-- the sum of the lines whose accounts are such ones -/
def sumQ (q : Int → Bool) : List Ln → Int
  | [] => 0
  | x :: r => (if q x.acc then x.amt else 0) + sumQ q r
theorem sumQ_app (q : Int → Bool) : ∀ (a b : List Ln), sumQ q (a ++ b) = sumQ q a + sumQ q b
  | [], b => by simp [sumQ]
  | x :: r, b => by simp only [List.cons_append, sumQ, sumQ_app q r b]; omega
theorem sum_zero {f : Int → Int} : ∀ {ks : List Int}, (∀ k ∈ ks, f k = 0) → sumI (ks.map f) = 0
  | [], _ => rfl
  | k :: r, h => by
    rw [List.map_cons]
    simp only [sumI]
    rw [h k (List.mem_cons_self ..), sum_zero (ks := r) (fun j hj => h j (List.mem_cons_of_mem _ hj))]
    rfl
theorem sum_add (f g : Int → Int) : ∀ (ks : List Int), sumI (ks.map (fun k => f k + g k)) = sumI (ks.map f) + sumI (ks.map g)
  | [] => rfl
  | k :: r => by simp only [List.map_cons, sumI, sum_add f g r]; omega
theorem sum_single (q : Int → Bool) (a m : Int) : ∀ {ks : List Int}, ks.Nodup → a ∈ ks → sumI (ks.map (fun k => if q k then (if a = k then m else 0) else 0)) = if q a then m else 0
  | [], _, h => by cases h
  | k :: r, hn, h => by
    rw [List.nodup_cons] at hn
    simp only [List.map_cons, sumI]
    by_cases hk : a = k
    · subst hk
      have h0 : sumI (r.map (fun k => if q k then (if a = k then m else 0) else 0)) = 0 := sum_zero (fun j hj => by
        have : ¬ a = j := fun e => hn.1 (by rw [e]; exact hj)
        rw [if_neg this]
        split <;> rfl)
      rw [h0]
      simp
    · have hr : a ∈ r := by
        rcases List.mem_cons.1 h with h | h
        · exact absurd h hk
        · exact h
      rw [sum_single q a m hn.2 hr, if_neg hk]
      split <;> simp
theorem sum_keys (q : Int → Bool) {ks : List Int} (hn : ks.Nodup) : ∀ (ls : List Ln), (∀ x ∈ ls, x.acc ∈ ks) → sumI (ks.map (fun k => if q k then sumK k ls else 0)) = sumQ q ls
  | [], _ => sum_zero (fun k _ => by simp [sumK])
  | x :: r, h => by
    have ih := sum_keys q hn r (fun y hy => h y (List.mem_cons_of_mem _ hy))
    have h1 := sum_single q x.acc x.amt hn (h x (List.mem_cons_self ..))
    have e : (fun k => if q k then sumK k (x :: r) else 0) = (fun k => (if q k then (if x.acc = k then x.amt else 0) else 0) + (if q k then sumK k r else 0)) := by
      funext k
      simp only [sumK]
      split <;> simp
    rw [e, sum_add, h1, ih]
    rfl
theorem accS_keys : ∀ (ls : List Ln) (s : List (Int × Int)) (k : Int), (k ∈ s.map (·.1) ∨ ∃ x ∈ ls, x.acc = k) → k ∈ (accS s ls).map (·.1)
  | [], s, k, h => by
    rcases h with h | ⟨x, hx, _⟩
    · exact h
    · cases hx
  | x :: r, s, k, h => by
    refine accS_keys r (sAdd s x.acc x.amt) k ?_
    have hk : ∀ j, (j ∈ s.map (·.1) ∨ j = x.acc) → j ∈ (sAdd s x.acc x.amt).map (·.1) := by
      intro j hj
      unfold sAdd
      rw [ins_keys]
      split
      · rename_i hin
        rcases hj with hj | rfl
        · exact hj
        · exact hin
      · rw [List.mem_append, List.mem_singleton]
        exact hj
    rcases h with h | ⟨y, hy, rfl⟩
    · exact .inl (hk k (.inl h))
    · rcases List.mem_cons.1 hy with rfl | hy
      · exact .inl (hk _ (.inr rfl))
      · exact .inr ⟨y, hy, rfl⟩
theorem tell_sum (q : Int → Bool) (s : List (Int × Int)) : ∀ (ks : List Int), sumI (((ks.flatMap (tellK s)).filter (fun x => q x.1)).map (·.2)) = sumI (ks.map (fun k => if q k then at0 s k else 0))
  | [] => rfl
  | k :: r => by
    rw [List.flatMap_cons, List.filter_append, List.map_append, sumI_app, tell_sum q s r]
    simp only [List.map_cons, sumI]
    have : sumI (((tellK s k).filter (fun x => q x.1)).map (·.2)) = if q k then at0 s k else 0 := by
      unfold tellK
      by_cases h : at0 s k = 0
      · simp [h, sumI]
      · have : (at0 s k == 0) = false := by simpa using h
        rw [this]
        cases hq : q k <;> simp [hq, sumI]
    rw [this]
/-- the sum of the balances of some accounts is that of their lines -/
theorem accR_sum {J : List Jn} (hV : ValJ J) (e f t : Int) (q : Int → Bool) : sumI (((accR J e f t).filter (fun x => q x.1)).map (·.2)) = sumQ q (linesOf J e f t) := by
  have hlen := linesOf_len hV.good (by have := hV.len; omega) e f t
  unfold accR tellS
  rw [tell_sum]
  have hp : (srt ((accS [] (linesOf J e f t)).map (·.1))).Perm ((accS [] (linesOf J e f t)).map (·.1)) := List.mergeSort_perm _ _
  rw [sumI_perm (hp.map _)]
  have hat : (fun k => if q k then at0 (accS [] (linesOf J e f t)) k else 0) = (fun k => if q k then sumK k (linesOf J e f t) else 0) := by
    funext k
    rw [accS_at _ _ rfl (by omega) (linesOf_amt hV e f t)]
  rw [hat]
  exact sum_keys q (accS_nodup _ _ (by simp)) _ (fun x hx => accS_keys _ _ _ (.inr ⟨x, hx, rfl⟩))
theorem neg_sum : ∀ (l : List (Int × Int)), sumI ((l.map negB).map (·.2)) = -sumI (l.map (·.2))
  | [] => rfl
  | x :: r => by
    simp only [List.map_cons, sumI, neg_sum r, negB]
    omega
theorem addM_ok {l : List Int} (h : (addM l).2 = 0) : (addM l).1 = sumI l := by
  unfold addM at h ⊢
  split
  · rename_i hc
    rw [if_pos hc] at h
    unfold fitS at h ⊢
    split
    · rfl
    · rename_i h2
      rw [if_neg h2] at h
      cases h
  · rename_i hc
    rw [if_neg hc] at h
    cases h
def kB (r : List Ac) (ks : List Int) (k : Int) : Bool := pickB r ks (k, 0)
theorem pickB_k (r : List Ac) (ks : List Int) : pickB r ks = fun x => kB r ks x.1 := rfl
/-- what is left, as a sum over lines -/
theorem net_sum {r : List Ac} {J : List Jn} (hV : ValJ J) {e f t : Int} (h : (incM r J e f t).2 = 0) : (incM r J e f t).1.2.2 = -sumQ (kB r [4]) (linesOf J e f t) - sumQ (kB r [5]) (linesOf J e f t) := by
  unfold incM at h ⊢
  rcases balT_cases J e f t with hb | hb | ⟨_, _, hb⟩
  · rw [hb] at h
    exact absurd h (by simp)
  · rw [hb] at h
    exact absurd h (by simp)
  · rw [hb] at h ⊢
    have e0 : ((0 : Int) != 0) = false := by decide
    simp only [e0, Bool.false_eq_true, if_false] at h ⊢
    unfold incR at h ⊢
    simp only at h ⊢
    obtain ⟨a, ea, hA⟩ : ∃ a ea, addM ((incI r (accR J e f t)).map (·.2)) = (a, ea) := ⟨_, _, rfl⟩
    obtain ⟨b, eb, hB⟩ : ∃ a ea, addM ((incO r (accR J e f t)).map (·.2)) = (a, ea) := ⟨_, _, rfl⟩
    rw [hA, hB] at h ⊢
    simp only at h ⊢
    obtain ⟨n, en, hN⟩ : ∃ n0 en0, addM [a, -b] = (n0, en0) := ⟨_, _, rfl⟩
    rw [hN] at h ⊢
    simp only at h ⊢
    by_cases h1 : ea = 0
    · by_cases h2 : eb = 0
      · by_cases h3 : en = 0
        · subst h1; subst h2; subst h3
          simp only [e0, Bool.false_eq_true, if_false]
          have a1 := addM_ok (l := (incI r (accR J e f t)).map (·.2)) (by rw [hA])
          have b1 := addM_ok (l := (incO r (accR J e f t)).map (·.2)) (by rw [hB])
          have n1 := addM_ok (l := [a, -b]) (by rw [hN])
          rw [hA] at a1
          rw [hB] at b1
          rw [hN] at n1
          unfold incI at a1
          unfold incO at b1
          rw [neg_sum, pickB_k, accR_sum hV] at a1
          rw [pickB_k, accR_sum hV] at b1
          simp only [sumI] at a1 b1 n1
          omega
        · have e3 : (en != 0) = true := by simpa using h3
          subst h1; subst h2
          simp only [e0, e3, Bool.false_eq_true, if_false, if_true] at h
          exact absurd h h3
      · have e2 : (eb != 0) = true := by simpa using h2
        subst h1
        simp only [e0, e2, Bool.false_eq_true, if_false, if_true] at h
        exact absurd h h2
    · have e1 : (ea != 0) = true := by simpa using h1
      simp only [e1, if_true] at h
      exact absurd h h1
theorem lines_split (q : Int → Bool) (e f m t : Int) (h1 : f ≤ m) (h2 : m ≤ t + 1) : ∀ (J : List Jn), sumQ q (linesOf J e f t) = sumQ q (linesOf J e f (m - 1)) + sumQ q (linesOf J e m t)
  | [] => rfl
  | j :: r => by
    have ih := lines_split q e f m t h1 h2 r
    have hc : ∀ f t, linesOf (j :: r) e f t = (if cnt e f t j then j.lines else []) ++ linesOf r e f t := by
      intro f t
      unfold linesOf
      rw [List.filter_cons]
      split <;> simp
    rw [hc, hc, hc, sumQ_app, sumQ_app, sumQ_app, ih]
    have hx : cnt e f t j = (cnt e f (m - 1) j || cnt e m t j) ∧ ¬ (cnt e f (m - 1) j = true ∧ cnt e m t j = true) := by
      unfold cnt
      cases j.void
      · cases j.en == e
        · simp
        · simp only [Bool.not_false, Bool.true_and]
          constructor
          · rw [Bool.eq_iff_iff]
            simp
            omega
          · simp
            omega
      · simp
    obtain ⟨hx1, hx2⟩ := hx
    cases c1 : cnt e f (m - 1) j <;> cases c2 : cnt e m t j
    · rw [c1, c2] at hx1; rw [hx1]; simp [sumQ]
    · rw [c1, c2] at hx1; rw [hx1]; simp [sumQ]; omega
    · rw [c1, c2] at hx1; rw [hx1]; simp [sumQ]; omega
    · exact absurd ⟨c1, c2⟩ hx2
end Go.Proofs.YtapmedcgfnlchaaGreat
