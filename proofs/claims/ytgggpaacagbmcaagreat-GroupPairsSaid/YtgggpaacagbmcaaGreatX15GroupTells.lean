/- Plain: sums by account, balances together. -/
import Derived.Test.YtgggpaacagbmcaaGreatX12GroupTells
import Derived.Test.YtgggpaacagbmcaaGreatX14GroupTells
set_option linter.unusedVariables false
set_option linter.unusedSimpArgs false
namespace Go.Proofs.YtgggpaacagbmcaaGreat
open Go.RowKit Go.Maps

/-- two lists that rise by their first parts and have the same in them are one -/
theorem rise_ext {A B : List (Int × Int)} (hA : A.Pairwise (fun x y => x.1 < y.1)) (hB : B.Pairwise (fun x y => x.1 < y.1)) (h : ∀ x, x ∈ A ↔ x ∈ B) : A = B := by
  have nd : ∀ {L : List (Int × Int)}, L.Pairwise (fun x y => x.1 < y.1) → L.Nodup := fun h => h.imp (fun {x y} hxy e => by rw [e] at hxy; omega)
  have hp : A.Perm B := (List.perm_ext_iff_of_nodup (nd hA) (nd hB)).2 h
  refine List.Perm.eq_of_pairwise (le := fun x y => x.1 < y.1) (fun a b _ _ h1 h2 => by omega) hA hB hp
theorem srt_pair (l : List Int) : (srt l).Pairwise (· ≤ ·) := by
  have := List.pairwise_mergeSort (le := fun (x y : Int) => decide (x ≤ y)) (fun a b c h1 h2 => by simp at *; omega) (fun a b => by simp; omega) l
  exact this.imp (fun h => by simpa using h)
theorem srt_rise {l : List Int} (h : l.Nodup) : (srt l).Pairwise (· < ·) := by
  have h1 := srt_pair l
  have h2 : (srt l).Nodup := (List.mergeSort_perm l _).nodup_iff.2 h
  exact (h1.and h2).imp (fun ⟨a, b⟩ => by omega)
theorem flat_rise {f : Int → List (Int × Int)} (hf : ∀ k x, x ∈ f k → x.1 = k) (hl : ∀ k, (f k).length ≤ 1) : ∀ {l : List Int}, l.Pairwise (· < ·) → (l.flatMap f).Pairwise (fun x y => x.1 < y.1)
  | [], _ => by simp
  | k :: r, h => by
    rw [List.pairwise_cons] at h
    rw [List.flatMap_cons, List.pairwise_append]
    refine ⟨?_, flat_rise hf hl h.2, fun x hx y hy => ?_⟩
    · have := hl k
      match hk : f k, this with
      | [], _ => exact List.Pairwise.nil
      | [a], _ => exact List.pairwise_singleton _ _
    · obtain ⟨k', hk', hy'⟩ := List.mem_flatMap.1 hy
      rw [hf k x hx, hf k' y hy']
      exact h.1 k' hk'

/-- the sum of an account's lines -/
def sumK (k : Int) : List Ln → Int
  | [] => 0
  | l :: r => (if l.acc = k then l.amt else 0) + sumK k r
theorem sumK_app (k : Int) : ∀ (a b : List Ln), sumK k (a ++ b) = sumK k a + sumK k b
  | [], b => by simp [sumK]
  | x :: r, b => by simp only [List.cons_append, sumK, sumK_app k r b]; omega
theorem sumK_bd (k : Int) : ∀ (ls : List Ln), (∀ x ∈ ls, -1000000000000000 ≤ x.amt ∧ x.amt ≤ 1000000000000000) → -(1000000000000000 * (ls.length : Int)) ≤ sumK k ls ∧ sumK k ls ≤ 1000000000000000 * (ls.length : Int)
  | [], _ => by simp [sumK]
  | x :: r, h => by
    have ih := sumK_bd k r (fun y hy => h y (List.mem_cons_of_mem _ hy))
    have hx := h x (List.mem_cons_self ..)
    simp only [sumK, List.length_cons]
    split <;> omega
theorem at0_ins (s : List (Int × Int)) (k v j : Int) : at0 (ins s k v) j = if j = k then v else at0 s j := by
  unfold at0
  rw [look_ins]
  split <;> rfl
theorem accS_snoc (s : List (Int × Int)) (ls : List Ln) (x : Ln) : accS s (ls ++ [x]) = sAdd (accS s ls) x.acc x.amt := by
  unfold accS
  rw [List.foldl_append]
  rfl
theorem accS_at : ∀ (n : Nat) (ls : List Ln), ls.length = n → n ≤ 9000 → (∀ x ∈ ls, -1000000000000000 ≤ x.amt ∧ x.amt ≤ 1000000000000000) → ∀ k, at0 (accS [] ls) k = sumK k ls := by
  intro n
  induction n with
  | zero =>
    intro ls hl _ _ k
    have := List.length_eq_zero_iff.1 hl
    subst this
    rfl
  | succ n ih =>
    intro ls hl hn hb k
    obtain ⟨r, x, rfl⟩ : ∃ r x, ls = r ++ [x] := ⟨ls.dropLast, ls.getLast (by intro e; rw [e] at hl; simp at hl), (List.dropLast_concat_getLast _).symm⟩
    have hr : r.length = n := by simpa using hl
    have hbr : ∀ y ∈ r, -1000000000000000 ≤ y.amt ∧ y.amt ≤ 1000000000000000 := fun y hy => hb y (List.mem_append_left _ hy)
    have hbx := hb x (by simp)
    have h1 := ih r hr (by omega) hbr
    have h2 := sumK_bd x.acc r hbr
    rw [accS_snoc, sAdd, at0_ins, sumK_app]
    by_cases hk : k = x.acc
    · subst hk
      rw [if_pos rfl, h1]
      have hw : wrap64 (sumK x.acc r + x.amt) = sumK x.acc r + x.amt := by
        unfold wrap64
        omega
      rw [hw]
      simp [sumK]
    · rw [if_neg hk, h1]
      have : ¬ x.acc = k := fun e => hk e.symm
      simp [sumK, this]
theorem at0_none {s : List (Int × Int)} {k : Int} (h : k ∉ s.map (·.1)) : at0 s k = 0 := by
  unfold at0 look
  have : s.find? (fun x => x.1 = k) = none := by
    rw [List.find?_eq_none]
    intro x hx he
    exact h (List.mem_map.2 ⟨x, hx, by simpa using he⟩)
  rw [this]
  rfl
theorem tellK_mem {s : List (Int × Int)} {k : Int} {x : Int × Int} : x ∈ tellK s k ↔ x = (k, at0 s k) ∧ at0 s k ≠ 0 := by
  unfold tellK
  by_cases h : at0 s k = 0 <;> simp [h]
theorem tellS_mem {s : List (Int × Int)} {x : Int × Int} : x ∈ tellS s ↔ at0 s x.1 = x.2 ∧ x.2 ≠ 0 := by
  unfold tellS
  rw [List.mem_flatMap]
  constructor
  · rintro ⟨k, _, hx⟩
    obtain ⟨rfl, h⟩ := tellK_mem.1 hx
    exact ⟨rfl, h⟩
  · rintro ⟨h1, h2⟩
    refine ⟨x.1, ?_, tellK_mem.2 ⟨Prod.ext rfl h1.symm, by rw [h1]; exact h2⟩⟩
    rw [srt_mem]
    rcases Classical.em (x.1 ∈ s.map (·.1)) with h | h
    · exact h
    · rw [at0_none h] at h1
      exact absurd h1.symm h2
theorem ins_nodup {s : List (Int × Int)} (h : (s.map (·.1)).Nodup) (k v : Int) : ((ins s k v).map (·.1)).Nodup := ins_once h k v
theorem accS_nodup : ∀ (ls : List Ln) (s : List (Int × Int)), (s.map (·.1)).Nodup → ((accS s ls).map (·.1)).Nodup
  | [], _, h => h
  | x :: r, s, h => accS_nodup r (sAdd s x.acc x.amt) (ins_nodup h _ _)
theorem tellS_rise {s : List (Int × Int)} (h : (s.map (·.1)).Nodup) : (tellS s).Pairwise (fun x y => x.1 < y.1) :=
  flat_rise (fun k x hx => by rw [(tellK_mem.1 hx).1]) (tellK_len s) (srt_rise h)

theorem linesOf_amt {l : List Jn} (h : ValJ l) (e f t : Int) : ∀ x ∈ linesOf l e f t, -1000000000000000 ≤ x.amt ∧ x.amt ≤ 1000000000000000 := by
  intro x hx
  obtain ⟨j, hj, hxj⟩ := List.mem_flatMap.1 hx
  have hc := h.ok j (List.mem_filter.1 hj).1
  have hfits : j.lines.any (fun l => !fitsB l.amt) = false := by
    cases hh : j.lines.any (fun l => !fitsB l.amt) with
    | false => rfl
    | true =>
      unfold chk at hc
      rw [hh] at hc
      revert hc
      split
      · intro h; cases h
      · split
        · intro h; cases h
        · split
          · intro h; cases h
          · intro h; simp at h
  rw [List.any_eq_false] at hfits
  have := hfits x hxj
  simpa [fitsB] using this
theorem accR_mem {l : List Jn} (h : ValJ l) {e f t : Int} {x : Int × Int} : x ∈ accR l e f t ↔ sumK x.1 (linesOf l e f t) = x.2 ∧ x.2 ≠ 0 := by
  unfold accR
  rw [tellS_mem, accS_at _ _ rfl (by have := linesOf_len h.good (by have := h.len; omega) e f t; omega) (linesOf_amt h e f t)]
theorem accR_rise (l : List Jn) (e f t : Int) : (accR l e f t).Pairwise (fun x y => x.1 < y.1) := tellS_rise (accS_nodup _ _ (by simp))

theorem sumK_filter (k : Int) (p : Jn → Bool) (q : Jn → Bool) (hpq : ∀ j, ¬ (p j = true ∧ q j = true)) : ∀ l : List Jn,
    sumK k ((l.filter (fun j => p j || q j)).flatMap (·.lines)) = sumK k ((l.filter p).flatMap (·.lines)) + sumK k ((l.filter q).flatMap (·.lines))
  | [] => by simp [sumK]
  | j :: r => by
    have ih := sumK_filter k p q hpq r
    have hj := hpq j
    cases hp : p j <;> cases hq : q j
    · simpa [hp, hq] using ih
    · simp only [List.filter_cons, hp, hq, Bool.or_true, if_true, Bool.false_eq_true, if_false, List.flatMap_cons, sumK_app, ih]; omega
    · simp only [List.filter_cons, hp, hq, Bool.or_false, if_true, Bool.false_eq_true, if_false, List.flatMap_cons, sumK_app, ih]; omega
    · exact absurd ⟨hp, hq⟩ hj
theorem sumK_parts (k : Int) (l : List Jn) (e f m t : Int) (h1 : f ≤ m) (h2 : m < t) : sumK k (linesOf l e f t) = sumK k (linesOf l e f m) + sumK k (linesOf l e (m + 1) t) := by
  unfold linesOf
  have hcc : cnt e f t = fun j => cnt e f m j || cnt e (m + 1) t j := by
    funext j
    unfold cnt
    cases j.void <;> cases j.en == e <;> simp
    by_cases a : f ≤ j.pe <;> by_cases b : j.pe ≤ t <;> by_cases c : j.pe ≤ m <;> by_cases d : m + 1 ≤ j.pe <;> simp [a, b, c, d] <;> omega
  rw [← sumK_filter k (cnt e f m) (cnt e (m + 1) t)]
  · rw [hcc]
  · intro j ⟨hp, hq⟩
    unfold cnt at hp hq
    simp at hp hq
    omega

theorem keysOf_mem {l : List (Int × Int)} {k : Int} : k ∈ keysOf l ↔ ∃ x ∈ l, x.1 = k := by
  have : ∀ (l : List (Int × Int)) (ks : List Int), k ∈ l.foldl (fun ks x => addKey ks x.1) ks ↔ k ∈ ks ∨ ∃ x ∈ l, x.1 = k := by
    intro l
    induction l with
    | nil => intro ks; simp
    | cons x r ih =>
      intro ks
      rw [List.foldl_cons, ih]
      have : k ∈ addKey ks x.1 ↔ k ∈ ks ∨ x.1 = k := by
        unfold addKey
        split
        · rename_i h
          constructor
          · exact .inl
          · rintro (h' | rfl)
            · exact h'
            · exact h
        · rw [List.mem_append, List.mem_singleton]
          constructor
          · rintro (h | rfl)
            · exact .inl h
            · exact .inr rfl
          · rintro (h | rfl)
            · exact .inl h
            · exact .inr rfl
      rw [this]
      simp only [List.mem_cons, exists_eq_or_imp]
      rw [or_assoc]
  have := this l []
  simpa [keysOf] using this
theorem keysOf_nodup (l : List (Int × Int)) : (keysOf l).Nodup := by
  have : ∀ (l : List (Int × Int)) (ks : List Int), ks.Nodup → (l.foldl (fun ks x => addKey ks x.1) ks).Nodup := by
    intro l
    induction l with
    | nil => intro ks h; exact h
    | cons x r ih =>
      intro ks h
      rw [List.foldl_cons]
      refine ih _ ?_
      unfold addKey
      split
      · exact h
      · rename_i hx
        rw [List.nodup_append]
        refine ⟨h, by simp, fun a ha b hb => ?_⟩
        rw [List.mem_singleton] at hb
        subst hb
        rintro rfl
        exact hx ha
  exact this l [] List.nodup_nil
theorem grpOf_app (a b : List (Int × Int)) (k : Int) : grpOf (a ++ b) k = grpOf a k ++ grpOf b k := by
  unfold grpOf
  rw [List.filter_append, List.map_append]
theorem grpOf_none {l : List (Int × Int)} {k : Int} (h : k ∉ keysOf l) : grpOf l k = [] := by
  unfold grpOf
  have : l.filter (fun x => x.1 == k) = [] := by
    rw [List.filter_eq_nil_iff]
    intro x hx he
    exact h (keysOf_mem.2 ⟨x, hx, by simpa using he⟩)
  rw [this]
  rfl
theorem plusK_mem {l : List (Int × Int)} {k : Int} {x : Int × Int} : x ∈ plusK l k ↔ x = (k, (addM (grpOf l k)).1) ∧ (addM (grpOf l k)).1 ≠ 0 := by
  unfold plusK
  by_cases h : (addM (grpOf l k)).1 = 0 <;> simp [h]
theorem plusT_ok {l : List (Int × Int)} (h : ∀ k, (grpOf l k).all fitsB = true ∧ fitsB (sumI (grpOf l k)) = true) :
    (plusT l).2 = 0 ∧ (plusT l).1.Pairwise (fun x y => x.1 < y.1) ∧ ∀ x, x ∈ (plusT l).1 ↔ sumI (grpOf l x.1) = x.2 ∧ x.2 ≠ 0 := by
  have hadd : ∀ k, addM (grpOf l k) = (sumI (grpOf l k), 0) := fun k => by
    unfold addM fitS
    rw [(h k).1, (h k).2]
    rfl
  have hT : plusT l = ((srt (keysOf l)).flatMap (plusK l), 0) := by
    unfold plusT
    rw [if_pos]
    rw [List.all_eq_true]
    intro k _
    rw [hadd k]
    rfl
  rw [hT]
  refine ⟨rfl, flat_rise (fun k x hx => by rw [(plusK_mem.1 hx).1]) (plusK_len l) (srt_rise (keysOf_nodup l)), fun x => ?_⟩
  show x ∈ (srt (keysOf l)).flatMap (plusK l) ↔ _
  rw [List.mem_flatMap]
  constructor
  · rintro ⟨k, _, hx⟩
    obtain ⟨rfl, h2⟩ := plusK_mem.1 hx
    rw [hadd k] at h2 ⊢
    exact ⟨rfl, h2⟩
  · rintro ⟨h1, h2⟩
    refine ⟨x.1, ?_, plusK_mem.2 ⟨Prod.ext rfl (by rw [hadd]; exact h1.symm), by rw [hadd]; show sumI (grpOf l x.1) ≠ 0; rw [h1]; exact h2⟩⟩
    rw [srt_mem]
    rcases Classical.em (x.1 ∈ keysOf l) with hk | hk
    · exact hk
    · rw [grpOf_none hk] at h1
      exact absurd h1.symm h2

/-- of a list that rises: what stands under one number -/
theorem grpOf_rise {l : List (Int × Int)} (h : l.Pairwise (fun x y => x.1 < y.1)) (k : Int) : (∃ v, (k, v) ∈ l ∧ grpOf l k = [v]) ∨ ((∀ v, (k, v) ∉ l) ∧ grpOf l k = []) := by
  induction l with
  | nil => exact .inr ⟨by simp, rfl⟩
  | cons x r ih =>
    rw [List.pairwise_cons] at h
    by_cases hx : x.1 = k
    · left
      refine ⟨x.2, by rw [← hx]; simp, ?_⟩
      have hr : r.filter (fun y => y.1 == k) = [] := by
        rw [List.filter_eq_nil_iff]
        intro y hy he
        have := h.1 y hy
        simp at he
        omega
      unfold grpOf
      rw [List.filter_cons, if_pos (by simpa using hx), hr]
      rfl
    · have e : grpOf (x :: r) k = grpOf r k := by
        unfold grpOf
        rw [List.filter_cons, if_neg (by simpa using hx)]
      rw [e]
      rcases ih h.2 with ⟨v, hv, he⟩ | ⟨hv, he⟩
      · exact .inl ⟨v, List.mem_cons_of_mem _ hv, he⟩
      · refine .inr ⟨fun v hm => ?_, he⟩
        rcases List.mem_cons.1 hm with rfl | hm
        · exact hx rfl
        · exact hv v hm
theorem grpOf_acc {l : List Jn} (h : ValJ l) (e f t k : Int) : sumI (grpOf (accR l e f t) k) = sumK k (linesOf l e f t) ∧ (∀ v ∈ grpOf (accR l e f t) k, (k, v) ∈ accR l e f t) := by
  rcases grpOf_rise (accR_rise l e f t) k with ⟨v, hv, he⟩ | ⟨hv, he⟩
  · rw [he]
    have := (accR_mem h).1 hv
    refine ⟨?_, fun u hu => ?_⟩
    · simp only [sumI, Int.add_zero]
      exact this.1.symm
    · rw [List.mem_singleton] at hu
      subst hu
      exact hv
  · rw [he]
    refine ⟨?_, by simp⟩
    rcases Classical.em (sumK k (linesOf l e f t) = 0) with h0 | h0
    · rw [h0]; rfl
    · exact absurd ((accR_mem h (x := (k, sumK k (linesOf l e f t)))).2 ⟨rfl, h0⟩) (hv _)

theorem balT_ok {l : List Jn} {e f t : Int} (h : (balT l e f t).2 = 0) : balT l e f t = (accR l e f t, 0) ∧ ∀ x ∈ accR l e f t, fitsB x.2 = true := by
  unfold balT at h ⊢
  split at h
  · rename_i hr
    split at h
    · rename_i hf
      rw [if_pos hr, if_pos hf]
      exact ⟨rfl, fun x hx => List.all_eq_true.1 hf x hx⟩
    · cases h
  · cases h

/-- the balances of some periods and of those behind them are, together, those of all -/
theorem parts_plus {l : List Jn} (h : ValJ l) {e f m t : Int} (h1 : f ≤ m) (h2 : m < t) (hx : (balT l e f m).2 = 0) (hy : (balT l e (m + 1) t).2 = 0) (hz : (balT l e f t).2 = 0) :
    plusT (accR l e f m ++ accR l e (m + 1) t) = (accR l e f t, 0) ∧ plusT (accR l e (m + 1) t ++ accR l e f m) = (accR l e f t, 0) := by
  have hfx := (balT_ok hx).2
  have hfy := (balT_ok hy).2
  have hfz := (balT_ok hz).2
  have hsum : ∀ k, fitsB (sumK k (linesOf l e f t)) = true := by
    intro k
    rcases Classical.em (sumK k (linesOf l e f t) = 0) with h0 | h0
    · rw [h0]; decide
    · exact hfz _ ((accR_mem h (x := (k, sumK k (linesOf l e f t)))).2 ⟨rfl, h0⟩)
  have core : ∀ (A B : List (Int × Int)), (∀ k, sumI (grpOf (A ++ B) k) = sumK k (linesOf l e f t)) → (∀ k, (grpOf (A ++ B) k).all fitsB = true) → plusT (A ++ B) = (accR l e f t, 0) := by
    intro A B hs ha
    obtain ⟨p1, p2, p3⟩ := plusT_ok (l := A ++ B) (fun k => ⟨ha k, by rw [hs k]; exact hsum k⟩)
    have : (plusT (A ++ B)).1 = accR l e f t := rise_ext p2 (accR_rise l e f t) (fun x => by rw [p3 x, hs x.1, accR_mem h])
    exact Prod.ext this p1
  have a1 : ∀ k, (grpOf (accR l e f m) k).all fitsB = true := fun k => by
    rw [List.all_eq_true]
    intro v hv
    exact hfx _ ((grpOf_acc h e f m k).2 v hv)
  have a2 : ∀ k, (grpOf (accR l e (m + 1) t) k).all fitsB = true := fun k => by
    rw [List.all_eq_true]
    intro v hv
    exact hfy _ ((grpOf_acc h e (m + 1) t k).2 v hv)
  constructor
  · refine core _ _ (fun k => ?_) (fun k => ?_)
    · rw [grpOf_app, sumI_app, (grpOf_acc h e f m k).1, (grpOf_acc h e (m + 1) t k).1, sumK_parts k l e f m t h1 h2]
    · rw [grpOf_app, List.all_append, a1 k, a2 k]; rfl
  · refine core _ _ (fun k => ?_) (fun k => ?_)
    · rw [grpOf_app, sumI_app, (grpOf_acc h e f m k).1, (grpOf_acc h e (m + 1) t k).1, sumK_parts k l e f m t h1 h2]; omega
    · rw [grpOf_app, List.all_append, a1 k, a2 k]; rfl
end Go.Proofs.YtgggpaacagbmcaaGreat
