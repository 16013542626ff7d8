/- Plain: what two members have with each other, as the document adds it. -/
import Derived.Test.YtgggpaacagbmcaaGreatX42GroupInner
import Derived.Test.YtgggpaacagbmcaaGreatX26GroupInner
set_option linter.unusedVariables false
set_option linter.unusedSimpArgs false
namespace Go.Proofs.YtgggpaacagbmcaaGreat
open Go.RowKit Go.Maps Go.Deep

/-- the amounts under a key -/
def prS (k : Int × Int) (ps : List ((Int × Int) × Int)) : Int := sumI ((ps.filter (fun y => y.1 == k)).map (·.2))
theorem prS_app (k : Int × Int) (a b : List ((Int × Int) × Int)) : prS k (a ++ b) = prS k a + prS k b := by
  unfold prS
  rw [List.filter_append, List.map_append, sumI_app]
theorem prS_one (k : Int × Int) (y : (Int × Int) × Int) : prS k [y] = if y.1 = k then y.2 else 0 := by
  unfold prS
  by_cases h : y.1 = k
  · simp [h, sumI]
  · simp [h, sumI]
theorem prS_bd (k : Int × Int) : ∀ ps : List ((Int × Int) × Int), (∀ y ∈ ps, -1000000000000000 ≤ y.2 ∧ y.2 ≤ 1000000000000000) → -(1000000000000000 * (ps.length : Int)) ≤ prS k ps ∧ prS k ps ≤ 1000000000000000 * (ps.length : Int)
  | [], _ => by simp [prS, sumI]
  | y :: r, h => by
    have ih := prS_bd k r (fun x hx => h x (List.mem_cons_of_mem _ hx))
    have hy := h y (List.mem_cons_self ..)
    have e : prS k (y :: r) = (if y.1 = k then y.2 else 0) + prS k r := by
      rw [show y :: r = [y] ++ r from rfl, prS_app, prS_one]
    rw [e, List.length_cons]
    split <;> omega
/-- the program's sums are the sums -/
theorem accQ_sum : ∀ (n : Nat) (ps : List ((Int × Int) × Int)), ps.length = n → n ≤ 8000 → (∀ y ∈ ps, -1000000000000000 ≤ y.2 ∧ y.2 ≤ 1000000000000000) → ∀ k, valQ (accQ [] ps) k = prS k ps
  | 0, ps, h, _, _, k => by
    obtain rfl := List.length_eq_zero_iff.1 h
    rfl
  | n + 1, ps, h, hn, hb, k => by
    rcases List.eq_nil_or_concat ps with rfl | ⟨r, y, rfl⟩
    · simp at h
    · rw [List.concat_eq_append] at h hb ⊢
      have hr : r.length = n := by simpa using h
      have hbr : ∀ x ∈ r, -1000000000000000 ≤ x.2 ∧ x.2 ≤ 1000000000000000 := fun x hx => hb x (List.mem_append_left _ hx)
      have hy := hb y (by simp)
      have ih := accQ_sum n r hr (by omega) hbr
      have hbd := prS_bd y.1 r hbr
      rw [accQ_snoc, valQ_ins, ih, ih, wrap_is (by omega) (by omega), prS_app, prS_one]
      by_cases hk : k = y.1
      · subst hk
        simp
      · have hk' : ¬ y.1 = k := fun e => hk e.symm
        simp [hk, hk']
/-- the amounts of an entity's lines with another one -/
def withE (e : Int) (ls : List Ln) : Int := sumA (ls.filter (fun x => x.par == e))
theorem withE_app (e : Int) (a b : List Ln) : withE e (a ++ b) = withE e a + withE e b := by
  unfold withE
  rw [List.filter_append]
  have : ∀ (a b : List Ln), sumA (a ++ b) = sumA a + sumA b := by
    intro a b
    induction a with
    | nil => simp [sumA]
    | cons x r ih => simp only [List.cons_append, sumA, ih]; omega
  exact this _ _
theorem pkey_eq {a b e f : Int} (hef : e < f) : pkey a b = (e, f) ↔ (a = e ∧ b = f) ∨ (a = f ∧ b = e) := by
  unfold pkey
  rw [Prod.mk.injEq]
  rcases Int.le_total a b with h | h
  · rw [Int.min_eq_left h, Int.max_eq_right h]
    omega
  · rw [Int.min_eq_right h, Int.max_eq_left h]
    omega
theorem lnP_sum (ms : List Mb) (en : Int) {e f : Int} (hef : e < f) (he : innB ms e = true) (hf : innB ms f = true) : ∀ ls : List Ln, prS (e, f) (lnP ms en ls) = if en = e then withE f ls else if en = f then withE e ls else 0
  | [] => by simp [lnP, prS, withE, sumI, sumA]
  | x :: r => by
    have ih := lnP_sum ms en hef he hf r
    have e1 : lnP ms en (x :: r) = (if innB ms x.par then [(pkey en x.par, x.amt)] else []) ++ lnP ms en r := by
      unfold lnP
      rw [List.filter_cons]
      split <;> simp
    have e2 : ∀ g, withE g (x :: r) = (if x.par = g then x.amt else 0) + withE g r := fun g => by
      unfold withE
      rw [List.filter_cons]
      by_cases h : x.par = g
      · simp [h, sumA]
      · simp [h]
    rw [e1, prS_app, ih, e2, e2]
    by_cases hi : innB ms x.par = true
    · rw [if_pos hi, prS_one]
      simp only [pkey_eq hef]
      by_cases h1 : en = e
      · subst h1
        have : ¬ en = f := by omega
        by_cases h2 : x.par = f
        · simp [h2]
        · simp [h2, this]
      · by_cases h2 : en = f
        · subst h2
          by_cases h3 : x.par = e
          · simp [h3, h1]
          · simp [h3, h1]
        · simp [h1, h2]
    · rw [if_neg hi]
      have n1 : ¬ x.par = e := fun h => by rw [h] at hi; exact hi he
      have n2 : ¬ x.par = f := fun h => by rw [h] at hi; exact hi hf
      simp [n1, n2, prS, sumI]
theorem allP_sum (ms : List Mb) (p : Int) {e f : Int} (hef : e < f) (he : innB ms e = true) (hf : innB ms f = true) : ∀ {J : List Jn}, (∀ x ∈ J, 0 ≤ x.pe) → prS (e, f) (allP ms p J) = withE f (linesOf J e 0 p) + withE e (linesOf J f 0 p)
  | [], _ => by simp [allP, linesOf, prS, withE, sumI, sumA]
  | j :: r, hp => by
    have ih := allP_sum ms p hef he hf (J := r) (fun x hx => hp x (List.mem_cons_of_mem _ hx))
    have hj := hp j (List.mem_cons_self ..)
    have e1 : allP ms p (j :: r) = jnP ms p j ++ allP ms p r := by
      unfold allP
      rw [List.flatMap_cons]
    have e2 : ∀ g, linesOf (j :: r) g 0 p = (if cnt g 0 p j then j.lines else []) ++ linesOf r g 0 p := fun g => by
      unfold linesOf
      rw [List.filter_cons]
      split <;> simp
    rw [e1, prS_app, ih, e2, e2, withE_app, withE_app]
    have z : ∀ g, withE g [] = 0 := fun g => rfl
    have key : prS (e, f) (jnP ms p j) = withE f (if cnt e 0 p j then j.lines else []) + withE e (if cnt f 0 p j then j.lines else []) := by
      have hd : decide (0 ≤ j.pe) = true := by simpa using hj
      by_cases hv : j.void = true
      · simp [jnP, jnB, cnt, hv, prS, sumI, z]
      · have hv' : j.void = false := by simpa using hv
        by_cases hpe : p < j.pe
        · have : ¬ j.pe ≤ p := by omega
          simp [jnP, jnB, cnt, hpe, this, prS, sumI, z]
        · have hle : j.pe ≤ p := by omega
          by_cases hin : innB ms j.en = true
          · have hb : jnB ms p j = true := by simp [jnB, hv', hpe, hin]
            unfold jnP
            rw [if_pos hb, lnP_sum ms j.en hef he hf]
            by_cases h1 : j.en = e
            · have : ¬ j.en = f := by omega
              simp [cnt, hv', hj, hle, h1, z]
              have : ¬ e = f := by omega
              simp [this, z]
            · by_cases h2 : j.en = f
              · have h3 : ¬ f = e := by omega
                simp [cnt, hv', hj, hle, h2, h3, z]
              · simp [cnt, h1, h2, z]
          · have hb : jnB ms p j = false := by simp [jnB, hin]
            have n1 : ¬ j.en = e := fun h => by rw [h] at hin; exact hin he
            have n2 : ¬ j.en = f := fun h => by rw [h] at hin; exact hin hf
            unfold jnP
            rw [hb]
            simp [cnt, n1, n2, prS, sumI, z]
    rw [key]
    omega
end Go.Proofs.YtgggpaacagbmcaaGreat


/- Plain: group.Inner tells what the document adds up, pair by pair. -/
set_option linter.unusedVariables false
set_option linter.unusedSimpArgs false
namespace Go.Proofs.YtgggpaacagbmcaaGreat
open Go.RowKit Go.Maps Go.Deep

/-- all pairs of members, the earlier one first -/
def prs : List Mb → List (Int × Int)
  | [] => []
  | m :: r => r.map (fun x => (m.en, x.en)) ++ prs r
/-- what a pair has with each other -/
def docS (p : Int) (J : List Jn) (k : Int × Int) : Int := withE k.2 (linesOf J k.1 0 p) + withE k.1 (linesOf J k.2 0 p)
def trioD (p : Int) (J : List Jn) (k : Int × Int) : List (Int × Int × Int) := if docS p J k == 0 then [] else [(k.1, k.2, docS p J k)]
def docI (ms : List Mb) (p : Int) (J : List Jn) : List (Int × Int × Int) × Int := if (prs ms).all (fun k => fitsB (docS p J k)) then ((prs ms).flatMap (trioD p J), 0) else ([], 2)
def ltP (x y : Int × Int) : Prop := x.1 < y.1 ∨ x.1 = y.1 ∧ x.2 < y.2
def ltQ (x y : Int × Int × Int) : Prop := x.1 < y.1 ∨ x.1 = y.1 ∧ x.2.1 < y.2.1
theorem trio_ext {A B : List (Int × Int × Int)} (hA : A.Pairwise ltQ) (hB : B.Pairwise ltQ) (h : ∀ x, x ∈ A ↔ x ∈ B) : A = B := by
  have nd : ∀ {L : List (Int × Int × Int)}, L.Pairwise ltQ → L.Nodup := fun h => h.imp (fun {x y} hxy e => by rw [e] at hxy; unfold ltQ at hxy; omega)
  have hp : A.Perm B := (List.perm_ext_iff_of_nodup (nd hA) (nd hB)).2 h
  exact List.Perm.eq_of_pairwise (le := ltQ) (fun a b _ _ h1 h2 => by unfold ltQ at h1 h2; omega) hA hB hp
theorem flat_trio {f : Int × Int → List (Int × Int × Int)} (hf : ∀ k x, x ∈ f k → x.1 = k.1 ∧ x.2.1 = k.2) (hl : ∀ k, (f k).length ≤ 1) : ∀ {l : List (Int × Int)}, l.Pairwise ltP → (l.flatMap f).Pairwise ltQ
  | [], _ => by simp
  | k :: r, h => by
    rw [List.pairwise_cons] at h
    rw [List.flatMap_cons, List.pairwise_append]
    refine ⟨?_, flat_trio hf hl h.2, fun x hx y hy => ?_⟩
    · have := hl k
      match hfk : f k with
      | [] => exact List.Pairwise.nil
      | [z] => exact List.pairwise_singleton _ _
      | z :: z' :: t => rw [hfk] at this; simp at this
    · obtain ⟨k', hk', hy'⟩ := List.mem_flatMap.1 hy
      obtain ⟨a1, a2⟩ := hf k x hx
      obtain ⟨b1, b2⟩ := hf k' y hy'
      have := h.1 k' hk'
      unfold ltP at this
      unfold ltQ
      rw [a1, a2, b1, b2]
      exact this
theorem prs_mem : ∀ {ms : List Mb} {k : Int × Int}, k ∈ prs ms → innB ms k.1 = true ∧ innB ms k.2 = true
  | [], k, h => by simp [prs] at h
  | m :: r, k, h => by
    unfold prs at h
    rcases List.mem_append.1 h with h | h
    · obtain ⟨x, hx, rfl⟩ := List.mem_map.1 h
      exact ⟨innB_iff.2 ⟨m, by simp, rfl⟩, innB_iff.2 ⟨x, by simp [hx], rfl⟩⟩
    · obtain ⟨h1, h2⟩ := prs_mem h
      obtain ⟨x, hx, e⟩ := innB_iff.1 h1
      obtain ⟨y, hy, e'⟩ := innB_iff.1 h2
      exact ⟨innB_iff.2 ⟨x, by simp [hx], e⟩, innB_iff.2 ⟨y, by simp [hy], e'⟩⟩
theorem gck_riseQ : ∀ (ms : List Mb) (la : Int), gck la ms = true → (∀ m ∈ ms, la < m.en ∧ m.en ≤ 9) ∧ ms.Pairwise (fun x y => x.en < y.en)
  | [], _, _ => ⟨by simp, List.Pairwise.nil⟩
  | x :: r, la, h => by
    unfold gck at h
    rw [Bool.and_eq_true] at h
    have hx : la < x.en ∧ x.en ≤ 9 := by
      have := h.1
      unfold okM at this
      simp at this
      exact ⟨this.1, this.2.1⟩
    obtain ⟨h1, h2⟩ := gck_riseQ r x.en h.2
    refine ⟨fun m hm => ?_, List.pairwise_cons.2 ⟨fun y hy => (h1 y hy).1, h2⟩⟩
    rcases List.mem_cons.1 hm with rfl | hm
    · exact hx
    · exact ⟨Int.lt_trans hx.1 (h1 m hm).1, (h1 m hm).2⟩
theorem grpB_riseQ {ms : List Mb} (h : grpB ms = true) : (∀ m ∈ ms, 0 < m.en ∧ m.en ≤ 9) ∧ ms.Pairwise (fun x y => x.en < y.en) := by
  unfold grpB at h
  simp only [Bool.and_eq_true] at h
  exact gck_riseQ ms 0 h.2.2
theorem prs_of : ∀ {ms : List Mb}, ms.Pairwise (fun x y => x.en < y.en) → ∀ {e f : Int}, e < f → innB ms e = true → innB ms f = true → (e, f) ∈ prs ms
  | [], _, e, f, _, h, _ => by simp [innB] at h
  | m :: r, hp, e, f, hef, he, hf => by
    rw [List.pairwise_cons] at hp
    obtain ⟨x, hx, rfl⟩ := innB_iff.1 he
    obtain ⟨y, hy, rfl⟩ := innB_iff.1 hf
    unfold prs
    rw [List.mem_append]
    rcases List.mem_cons.1 hx with hx1 | hx1
    · rcases List.mem_cons.1 hy with hy1 | hy1
      · rw [hx1, hy1] at hef
        omega
      · exact .inl (List.mem_map.2 ⟨y, hy1, by rw [hx1]⟩)
    · rcases List.mem_cons.1 hy with hy1 | hy1
      · have := hp.1 x hx1
        rw [hy1] at hef
        omega
      · exact .inr (prs_of hp.2 hef (innB_iff.2 ⟨x, hx1, rfl⟩) (innB_iff.2 ⟨y, hy1, rfl⟩))
theorem prs_rise : ∀ {ms : List Mb}, ms.Pairwise (fun x y => x.en < y.en) → (prs ms).Pairwise ltP ∧ ∀ k ∈ prs ms, k.1 < k.2
  | [], _ => ⟨List.Pairwise.nil, by simp [prs]⟩
  | m :: r, hp => by
    rw [List.pairwise_cons] at hp
    obtain ⟨h1, h2⟩ := prs_rise hp.2
    unfold prs
    refine ⟨List.pairwise_append.2 ⟨?_, h1, fun x hx y hy => ?_⟩, fun k hk => ?_⟩
    · rw [List.pairwise_map]
      exact hp.2.imp (fun h => .inr ⟨rfl, h⟩)
    · obtain ⟨z, _, rfl⟩ := List.mem_map.1 hx
      obtain ⟨u, hu, e⟩ := innB_iff.1 (prs_mem hy).1
      have := hp.1 u hu
      exact .inl (by show m.en < y.1; omega)
    · rcases List.mem_append.1 hk with hk | hk
      · obtain ⟨z, hz, rfl⟩ := List.mem_map.1 hk
        exact hp.1 z hz
      · exact h2 k hk
/-- the keys are pairs of members -/
theorem accQ_keys : ∀ (ps : List ((Int × Int) × Int)) (s : GsQ) (k : Int × Int), k ∈ (accQ s ps).map (·.1) → k ∈ s.map (·.1) ∨ ∃ y ∈ ps, y.1 = k
  | [], s, k, h => .inl h
  | y :: r, s, k, h => by
    have e : accQ s (y :: r) = accQ (ins s y.1 (IntKind.i64.wrap (valQ s y.1 + y.2))) r := rfl
    rw [e] at h
    rcases accQ_keys r _ k h with h | ⟨z, hz, rfl⟩
    · rw [ins_keys] at h
      split at h
      · exact .inl h
      · rcases List.mem_append.1 h with h | h
        · exact .inl h
        · exact .inr ⟨y, by simp, (List.mem_singleton.1 h).symm⟩
    · exact .inr ⟨z, by simp [hz], rfl⟩
end Go.Proofs.YtgggpaacagbmcaaGreat
