/- Plain: sums by account, balances together. -/
import Derived.Test.YtgggpaacagbmcaaGreatX17GroupInner
import Derived.Test.YtgggpaacagbmcaaGreatX20GroupInner
import Derived.Test.YtgggpaacagbmcaaGreatX10GroupInner
import Derived.LoopN
set_option linter.unusedVariables false
set_option linter.unusedSimpArgs false
namespace Go.Proofs.YtgggpaacagbmcaaGreat
open Go.RowKit Go.Maps

/-- two lists that rise by their first parts and have the same in them are one -/
theorem rise_ext {A B : List (Int × Int)} (hA : A.Pairwise (fun x y => x.1 < y.1)) (hB : B.Pairwise (fun x y => x.1 < y.1)) (h : ∀ x, x ∈ A ↔ x ∈ B) : A = B := by
  have nd : ∀ {L : List (Int × Int)}, L.Pairwise (fun x y => x.1 < y.1) → L.Nodup := fun h => h.imp (fun {x y} hxy e => by rw [e] at hxy; omega)
  have hp : A.Perm B := (List.perm_ext_iff_of_nodup (nd hA) (nd hB)).2 h
  refine List.Perm.eq_of_pairwise (le := fun x y => x.1 < y.1) (fun a b _ _ h1 h2 => by omega) hA hB hp
theorem srt_pair (l : List Int) : (srt l).Pairwise (· ≤ ·) := by
  have := List.pairwise_mergeSort (le := fun (x y : Int) => decide (x ≤ y)) (fun a b c h1 h2 => by simp at *; omega) (fun a b => by simp; omega) l
  exact this.imp (fun h => by simpa using h)
theorem srt_rise {l : List Int} (h : l.Nodup) : (srt l).Pairwise (· < ·) := by
  have h1 := srt_pair l
  have h2 : (srt l).Nodup := (List.mergeSort_perm l _).nodup_iff.2 h
  exact (h1.and h2).imp (fun ⟨a, b⟩ => by omega)
theorem flat_rise {f : Int → List (Int × Int)} (hf : ∀ k x, x ∈ f k → x.1 = k) (hl : ∀ k, (f k).length ≤ 1) : ∀ {l : List Int}, l.Pairwise (· < ·) → (l.flatMap f).Pairwise (fun x y => x.1 < y.1)
  | [], _ => by simp
  | k :: r, h => by
    rw [List.pairwise_cons] at h
    rw [List.flatMap_cons, List.pairwise_append]
    refine ⟨?_, flat_rise hf hl h.2, fun x hx y hy => ?_⟩
    · have := hl k
      match hk : f k, this with
      | [], _ => exact List.Pairwise.nil
      | [a], _ => exact List.pairwise_singleton _ _
    · obtain ⟨k', hk', hy'⟩ := List.mem_flatMap.1 hy
      rw [hf k x hx, hf k' y hy']
      exact h.1 k' hk'

/-- the sum of an account's lines -/
def sumK (k : Int) : List Ln → Int
  | [] => 0
  | l :: r => (if l.acc = k then l.amt else 0) + sumK k r
theorem sumK_app (k : Int) : ∀ (a b : List Ln), sumK k (a ++ b) = sumK k a + sumK k b
  | [], b => by simp [sumK]
  | x :: r, b => by simp only [List.cons_append, sumK, sumK_app k r b]; omega
theorem sumK_bd (k : Int) : ∀ (ls : List Ln), (∀ x ∈ ls, -1000000000000000 ≤ x.amt ∧ x.amt ≤ 1000000000000000) → -(1000000000000000 * (ls.length : Int)) ≤ sumK k ls ∧ sumK k ls ≤ 1000000000000000 * (ls.length : Int)
  | [], _ => by simp [sumK]
  | x :: r, h => by
    have ih := sumK_bd k r (fun y hy => h y (List.mem_cons_of_mem _ hy))
    have hx := h x (List.mem_cons_self ..)
    simp only [sumK, List.length_cons]
    split <;> omega
theorem at0_ins (s : List (Int × Int)) (k v j : Int) : at0 (ins s k v) j = if j = k then v else at0 s j := by
  unfold at0
  rw [look_ins]
  split <;> rfl
theorem accS_snoc (s : List (Int × Int)) (ls : List Ln) (x : Ln) : accS s (ls ++ [x]) = sAdd (accS s ls) x.acc x.amt := by
  unfold accS
  rw [List.foldl_append]
  rfl
theorem accS_at : ∀ (n : Nat) (ls : List Ln), ls.length = n → n ≤ 9000 → (∀ x ∈ ls, -1000000000000000 ≤ x.amt ∧ x.amt ≤ 1000000000000000) → ∀ k, at0 (accS [] ls) k = sumK k ls := by
  intro n
  induction n with
  | zero =>
    intro ls hl _ _ k
    have := List.length_eq_zero_iff.1 hl
    subst this
    rfl
  | succ n ih =>
    intro ls hl hn hb k
    obtain ⟨r, x, rfl⟩ : ∃ r x, ls = r ++ [x] := ⟨ls.dropLast, ls.getLast (by intro e; rw [e] at hl; simp at hl), (List.dropLast_concat_getLast _).symm⟩
    have hr : r.length = n := by simpa using hl
    have hbr : ∀ y ∈ r, -1000000000000000 ≤ y.amt ∧ y.amt ≤ 1000000000000000 := fun y hy => hb y (List.mem_append_left _ hy)
    have hbx := hb x (by simp)
    have h1 := ih r hr (by omega) hbr
    have h2 := sumK_bd x.acc r hbr
    rw [accS_snoc, sAdd, at0_ins, sumK_app]
    by_cases hk : k = x.acc
    · subst hk
      rw [if_pos rfl, h1]
      have hw : wrap64 (sumK x.acc r + x.amt) = sumK x.acc r + x.amt := by
        unfold wrap64
        omega
      rw [hw]
      simp [sumK]
    · rw [if_neg hk, h1]
      have : ¬ x.acc = k := fun e => hk e.symm
      simp [sumK, this]
theorem at0_none {s : List (Int × Int)} {k : Int} (h : k ∉ s.map (·.1)) : at0 s k = 0 := by
  unfold at0 look
  have : s.find? (fun x => x.1 = k) = none := by
    rw [List.find?_eq_none]
    intro x hx he
    exact h (List.mem_map.2 ⟨x, hx, by simpa using he⟩)
  rw [this]
  rfl
theorem tellK_mem {s : List (Int × Int)} {k : Int} {x : Int × Int} : x ∈ tellK s k ↔ x = (k, at0 s k) ∧ at0 s k ≠ 0 := by
  unfold tellK
  by_cases h : at0 s k = 0 <;> simp [h]
theorem tellS_mem {s : List (Int × Int)} {x : Int × Int} : x ∈ tellS s ↔ at0 s x.1 = x.2 ∧ x.2 ≠ 0 := by
  unfold tellS
  rw [List.mem_flatMap]
  constructor
  · rintro ⟨k, _, hx⟩
    obtain ⟨rfl, h⟩ := tellK_mem.1 hx
    exact ⟨rfl, h⟩
  · rintro ⟨h1, h2⟩
    refine ⟨x.1, ?_, tellK_mem.2 ⟨Prod.ext rfl h1.symm, by rw [h1]; exact h2⟩⟩
    rw [srt_mem]
    rcases Classical.em (x.1 ∈ s.map (·.1)) with h | h
    · exact h
    · rw [at0_none h] at h1
      exact absurd h1.symm h2
theorem ins_nodup {s : List (Int × Int)} (h : (s.map (·.1)).Nodup) (k v : Int) : ((ins s k v).map (·.1)).Nodup := ins_once h k v
theorem accS_nodup : ∀ (ls : List Ln) (s : List (Int × Int)), (s.map (·.1)).Nodup → ((accS s ls).map (·.1)).Nodup
  | [], _, h => h
  | x :: r, s, h => accS_nodup r (sAdd s x.acc x.amt) (ins_nodup h _ _)
theorem tellS_rise {s : List (Int × Int)} (h : (s.map (·.1)).Nodup) : (tellS s).Pairwise (fun x y => x.1 < y.1) :=
  flat_rise (fun k x hx => by rw [(tellK_mem.1 hx).1]) (tellK_len s) (srt_rise h)

theorem linesOf_amt {l : List Jn} (h : ValJ l) (e f t : Int) : ∀ x ∈ linesOf l e f t, -1000000000000000 ≤ x.amt ∧ x.amt ≤ 1000000000000000 := by
  intro x hx
  obtain ⟨j, hj, hxj⟩ := List.mem_flatMap.1 hx
  have hc := h.ok j (List.mem_filter.1 hj).1
  have hfits : j.lines.any (fun l => !fitsB l.amt) = false := by
    cases hh : j.lines.any (fun l => !fitsB l.amt) with
    | false => rfl
    | true =>
      unfold chk at hc
      rw [hh] at hc
      revert hc
      split
      · intro h; cases h
      · split
        · intro h; cases h
        · split
          · intro h; cases h
          · intro h; simp at h
  rw [List.any_eq_false] at hfits
  have := hfits x hxj
  simpa [fitsB] using this
theorem accR_mem {l : List Jn} (h : ValJ l) {e f t : Int} {x : Int × Int} : x ∈ accR l e f t ↔ sumK x.1 (linesOf l e f t) = x.2 ∧ x.2 ≠ 0 := by
  unfold accR
  rw [tellS_mem, accS_at _ _ rfl (by have := linesOf_len h.good (by have := h.len; omega) e f t; omega) (linesOf_amt h e f t)]
theorem accR_rise (l : List Jn) (e f t : Int) : (accR l e f t).Pairwise (fun x y => x.1 < y.1) := tellS_rise (accS_nodup _ _ (by simp))

theorem sumK_filter (k : Int) (p : Jn → Bool) (q : Jn → Bool) (hpq : ∀ j, ¬ (p j = true ∧ q j = true)) : ∀ l : List Jn,
    sumK k ((l.filter (fun j => p j || q j)).flatMap (·.lines)) = sumK k ((l.filter p).flatMap (·.lines)) + sumK k ((l.filter q).flatMap (·.lines))
  | [] => by simp [sumK]
  | j :: r => by
    have ih := sumK_filter k p q hpq r
    have hj := hpq j
    cases hp : p j <;> cases hq : q j
    · simpa [hp, hq] using ih
    · simp only [List.filter_cons, hp, hq, Bool.or_true, if_true, Bool.false_eq_true, if_false, List.flatMap_cons, sumK_app, ih]; omega
    · simp only [List.filter_cons, hp, hq, Bool.or_false, if_true, Bool.false_eq_true, if_false, List.flatMap_cons, sumK_app, ih]; omega
    · exact absurd ⟨hp, hq⟩ hj
theorem sumK_parts (k : Int) (l : List Jn) (e f m t : Int) (h1 : f ≤ m) (h2 : m < t) : sumK k (linesOf l e f t) = sumK k (linesOf l e f m) + sumK k (linesOf l e (m + 1) t) := by
  unfold linesOf
  have hcc : cnt e f t = fun j => cnt e f m j || cnt e (m + 1) t j := by
    funext j
    unfold cnt
    cases j.void <;> cases j.en == e <;> simp
    by_cases a : f ≤ j.pe <;> by_cases b : j.pe ≤ t <;> by_cases c : j.pe ≤ m <;> by_cases d : m + 1 ≤ j.pe <;> simp [a, b, c, d] <;> omega
  rw [← sumK_filter k (cnt e f m) (cnt e (m + 1) t)]
  · rw [hcc]
  · intro j ⟨hp, hq⟩
    unfold cnt at hp hq
    simp at hp hq
    omega

theorem keysOf_mem {l : List (Int × Int)} {k : Int} : k ∈ keysOf l ↔ ∃ x ∈ l, x.1 = k := by
  have : ∀ (l : List (Int × Int)) (ks : List Int), k ∈ l.foldl (fun ks x => addKey ks x.1) ks ↔ k ∈ ks ∨ ∃ x ∈ l, x.1 = k := by
    intro l
    induction l with
    | nil => intro ks; simp
    | cons x r ih =>
      intro ks
      rw [List.foldl_cons, ih]
      have : k ∈ addKey ks x.1 ↔ k ∈ ks ∨ x.1 = k := by
        unfold addKey
        split
        · rename_i h
          constructor
          · exact .inl
          · rintro (h' | rfl)
            · exact h'
            · exact h
        · rw [List.mem_append, List.mem_singleton]
          constructor
          · rintro (h | rfl)
            · exact .inl h
            · exact .inr rfl
          · rintro (h | rfl)
            · exact .inl h
            · exact .inr rfl
      rw [this]
      simp only [List.mem_cons, exists_eq_or_imp]
      rw [or_assoc]
  have := this l []
  simpa [keysOf] using this
theorem keysOf_nodup (l : List (Int × Int)) : (keysOf l).Nodup := by
  have : ∀ (l : List (Int × Int)) (ks : List Int), ks.Nodup → (l.foldl (fun ks x => addKey ks x.1) ks).Nodup := by
    intro l
    induction l with
    | nil => intro ks h; exact h
    | cons x r ih =>
      intro ks h
      rw [List.foldl_cons]
      refine ih _ ?_
      unfold addKey
      split
      · exact h
      · rename_i hx
        rw [List.nodup_append]
        refine ⟨h, by simp, fun a ha b hb => ?_⟩
        rw [List.mem_singleton] at hb
        subst hb
        rintro rfl
        exact hx ha
  exact this l [] List.nodup_nil
theorem grpOf_app (a b : List (Int × Int)) (k : Int) : grpOf (a ++ b) k = grpOf a k ++ grpOf b k := by
  unfold grpOf
  rw [List.filter_append, List.map_append]
theorem grpOf_none {l : List (Int × Int)} {k : Int} (h : k ∉ keysOf l) : grpOf l k = [] := by
  unfold grpOf
  have : l.filter (fun x => x.1 == k) = [] := by
    rw [List.filter_eq_nil_iff]
    intro x hx he
    exact h (keysOf_mem.2 ⟨x, hx, by simpa using he⟩)
  rw [this]
  rfl
theorem plusK_mem {l : List (Int × Int)} {k : Int} {x : Int × Int} : x ∈ plusK l k ↔ x = (k, (addM (grpOf l k)).1) ∧ (addM (grpOf l k)).1 ≠ 0 := by
  unfold plusK
  by_cases h : (addM (grpOf l k)).1 = 0 <;> simp [h]
theorem plusT_ok {l : List (Int × Int)} (h : ∀ k, (grpOf l k).all fitsB = true ∧ fitsB (sumI (grpOf l k)) = true) :
    (plusT l).2 = 0 ∧ (plusT l).1.Pairwise (fun x y => x.1 < y.1) ∧ ∀ x, x ∈ (plusT l).1 ↔ sumI (grpOf l x.1) = x.2 ∧ x.2 ≠ 0 := by
  have hadd : ∀ k, addM (grpOf l k) = (sumI (grpOf l k), 0) := fun k => by
    unfold addM fitS
    rw [(h k).1, (h k).2]
    rfl
  have hT : plusT l = ((srt (keysOf l)).flatMap (plusK l), 0) := by
    unfold plusT
    rw [if_pos]
    rw [List.all_eq_true]
    intro k _
    rw [hadd k]
    rfl
  rw [hT]
  refine ⟨rfl, flat_rise (fun k x hx => by rw [(plusK_mem.1 hx).1]) (plusK_len l) (srt_rise (keysOf_nodup l)), fun x => ?_⟩
  show x ∈ (srt (keysOf l)).flatMap (plusK l) ↔ _
  rw [List.mem_flatMap]
  constructor
  · rintro ⟨k, _, hx⟩
    obtain ⟨rfl, h2⟩ := plusK_mem.1 hx
    rw [hadd k] at h2 ⊢
    exact ⟨rfl, h2⟩
  · rintro ⟨h1, h2⟩
    refine ⟨x.1, ?_, plusK_mem.2 ⟨Prod.ext rfl (by rw [hadd]; exact h1.symm), by rw [hadd]; show sumI (grpOf l x.1) ≠ 0; rw [h1]; exact h2⟩⟩
    rw [srt_mem]
    rcases Classical.em (x.1 ∈ keysOf l) with hk | hk
    · exact hk
    · rw [grpOf_none hk] at h1
      exact absurd h1.symm h2

/-- of a list that rises: what stands under one number -/
theorem grpOf_rise {l : List (Int × Int)} (h : l.Pairwise (fun x y => x.1 < y.1)) (k : Int) : (∃ v, (k, v) ∈ l ∧ grpOf l k = [v]) ∨ ((∀ v, (k, v) ∉ l) ∧ grpOf l k = []) := by
  induction l with
  | nil => exact .inr ⟨by simp, rfl⟩
  | cons x r ih =>
    rw [List.pairwise_cons] at h
    by_cases hx : x.1 = k
    · left
      refine ⟨x.2, by rw [← hx]; simp, ?_⟩
      have hr : r.filter (fun y => y.1 == k) = [] := by
        rw [List.filter_eq_nil_iff]
        intro y hy he
        have := h.1 y hy
        simp at he
        omega
      unfold grpOf
      rw [List.filter_cons, if_pos (by simpa using hx), hr]
      rfl
    · have e : grpOf (x :: r) k = grpOf r k := by
        unfold grpOf
        rw [List.filter_cons, if_neg (by simpa using hx)]
      rw [e]
      rcases ih h.2 with ⟨v, hv, he⟩ | ⟨hv, he⟩
      · exact .inl ⟨v, List.mem_cons_of_mem _ hv, he⟩
      · refine .inr ⟨fun v hm => ?_, he⟩
        rcases List.mem_cons.1 hm with rfl | hm
        · exact hx rfl
        · exact hv v hm
theorem grpOf_acc {l : List Jn} (h : ValJ l) (e f t k : Int) : sumI (grpOf (accR l e f t) k) = sumK k (linesOf l e f t) ∧ (∀ v ∈ grpOf (accR l e f t) k, (k, v) ∈ accR l e f t) := by
  rcases grpOf_rise (accR_rise l e f t) k with ⟨v, hv, he⟩ | ⟨hv, he⟩
  · rw [he]
    have := (accR_mem h).1 hv
    refine ⟨?_, fun u hu => ?_⟩
    · simp only [sumI, Int.add_zero]
      exact this.1.symm
    · rw [List.mem_singleton] at hu
      subst hu
      exact hv
  · rw [he]
    refine ⟨?_, by simp⟩
    rcases Classical.em (sumK k (linesOf l e f t) = 0) with h0 | h0
    · rw [h0]; rfl
    · exact absurd ((accR_mem h (x := (k, sumK k (linesOf l e f t)))).2 ⟨rfl, h0⟩) (hv _)

theorem balT_ok {l : List Jn} {e f t : Int} (h : (balT l e f t).2 = 0) : balT l e f t = (accR l e f t, 0) ∧ ∀ x ∈ accR l e f t, fitsB x.2 = true := by
  unfold balT at h ⊢
  split at h
  · rename_i hr
    split at h
    · rename_i hf
      rw [if_pos hr, if_pos hf]
      exact ⟨rfl, fun x hx => List.all_eq_true.1 hf x hx⟩
    · cases h
  · cases h

/-- the balances of some periods and of those behind them are, together, those of all -/
theorem parts_plus {l : List Jn} (h : ValJ l) {e f m t : Int} (h1 : f ≤ m) (h2 : m < t) (hx : (balT l e f m).2 = 0) (hy : (balT l e (m + 1) t).2 = 0) (hz : (balT l e f t).2 = 0) :
    plusT (accR l e f m ++ accR l e (m + 1) t) = (accR l e f t, 0) ∧ plusT (accR l e (m + 1) t ++ accR l e f m) = (accR l e f t, 0) := by
  have hfx := (balT_ok hx).2
  have hfy := (balT_ok hy).2
  have hfz := (balT_ok hz).2
  have hsum : ∀ k, fitsB (sumK k (linesOf l e f t)) = true := by
    intro k
    rcases Classical.em (sumK k (linesOf l e f t) = 0) with h0 | h0
    · rw [h0]; decide
    · exact hfz _ ((accR_mem h (x := (k, sumK k (linesOf l e f t)))).2 ⟨rfl, h0⟩)
  have core : ∀ (A B : List (Int × Int)), (∀ k, sumI (grpOf (A ++ B) k) = sumK k (linesOf l e f t)) → (∀ k, (grpOf (A ++ B) k).all fitsB = true) → plusT (A ++ B) = (accR l e f t, 0) := by
    intro A B hs ha
    obtain ⟨p1, p2, p3⟩ := plusT_ok (l := A ++ B) (fun k => ⟨ha k, by rw [hs k]; exact hsum k⟩)
    have : (plusT (A ++ B)).1 = accR l e f t := rise_ext p2 (accR_rise l e f t) (fun x => by rw [p3 x, hs x.1, accR_mem h])
    exact Prod.ext this p1
  have a1 : ∀ k, (grpOf (accR l e f m) k).all fitsB = true := fun k => by
    rw [List.all_eq_true]
    intro v hv
    exact hfx _ ((grpOf_acc h e f m k).2 v hv)
  have a2 : ∀ k, (grpOf (accR l e (m + 1) t) k).all fitsB = true := fun k => by
    rw [List.all_eq_true]
    intro v hv
    exact hfy _ ((grpOf_acc h e (m + 1) t k).2 v hv)
  constructor
  · refine core _ _ (fun k => ?_) (fun k => ?_)
    · rw [grpOf_app, sumI_app, (grpOf_acc h e f m k).1, (grpOf_acc h e (m + 1) t k).1, sumK_parts k l e f m t h1 h2]
    · rw [grpOf_app, List.all_append, a1 k, a2 k]; rfl
  · refine core _ _ (fun k => ?_) (fun k => ?_)
    · rw [grpOf_app, sumI_app, (grpOf_acc h e f m k).1, (grpOf_acc h e (m + 1) t k).1, sumK_parts k l e f m t h1 h2]; omega
    · rw [grpOf_app, List.all_append, a1 k, a2 k]; rfl
end Go.Proofs.YtgggpaacagbmcaaGreat


/- Plain: a group: what a member has, in the group's money. -/
set_option linter.unusedVariables false
set_option linter.unusedSimpArgs false
namespace Go.Proofs.YtgggpaacagbmcaaGreat
open Go.RowKit Go.Maps Go.Deep

structure Mb where
  en : Int
  sh : Int
  cl : Int
  av : Int
  ol : Int
/-- is an entity a member? -/
def innB (ms : List Mb) (e : Int) : Bool := ms.any (fun m => m.en == e)
/-- rates that may be -/
def rateB (n : Int) : Bool := decide (1 ≤ n) && decide (n ≤ 1000000000)
def mbB (m : Mb) : Bool := rateB m.cl && (rateB m.av && rateB m.ol)
def outL (ms : List Mb) (ls : List Ln) : List Ln := ls.filter (fun x => !innB ms x.par)
def inL (ms : List Mb) (ls : List Ln) : List Ln := ls.filter (fun x => innB ms x.par)
/-- a member's sums by account, and what it has with members -/
def linT (ms : List Mb) (J : List Jn) (e p : Int) : (List (Int × Int) × Int) × Int :=
  if !(tellS (accS [] (outL ms (linesOf J e 0 p)))).all (fun x => fitsB x.2) then (([], 0), 2) else if !fitsB (sumA (inL ms (linesOf J e 0 p))) then (([], 0), 2) else ((tellS (accS [] (outL ms (linesOf J e 0 p))), sumA (inL ms (linesOf J e 0 p))), 0)
/-- the rate of a kind -/
def rateK (m : Mb) (k : Int) : Int := if k == 4 || k == 5 then m.av else if k == 3 then m.ol else m.cl
/-- balances in another money, as far as they go -/
def trnL (r : List Ac) (m : Mb) (l : List (Int × Int)) : List (Int × Int) := (l.map (fun x => (x.1, (scaleT x.2 (rateK m (kindA r x.1)) 1000000).1))).filter (fun x => x.2 != 0)
def trnB (r : List Ac) (m : Mb) (l : List (Int × Int)) : Bool := l.all (fun x => (scaleT x.2 (rateK m (kindA r x.1)) 1000000).2 == 0)
theorem innB_iff {ms : List Mb} {e : Int} : innB ms e = true ↔ ∃ m ∈ ms, m.en = e := by
  unfold innB
  simp [List.any_eq_true]
theorem parts_lines (ms : List Mb) : ∀ (ls : List Ln), sumA (outL ms ls) + sumA (inL ms ls) = sumA ls
  | [] => rfl
  | x :: r => by
    have ih := parts_lines ms r
    unfold outL inL at ih ⊢
    rw [List.filter_cons, List.filter_cons]
    cases h : innB ms x.par
    · simp only [Bool.not_false, if_true, Bool.false_eq_true, if_false, sumA]
      omega
    · simp only [Bool.not_true, if_true, Bool.false_eq_true, if_false, sumA]
      omega
end Go.Proofs.YtgggpaacagbmcaaGreat


/- income.Of: the statement of balances. -/
set_option linter.unusedVariables false
set_option linter.unusedSimpArgs false
namespace Go.Proofs.YtgggpaacagbmcaaGreat
open Go.RowKit Go.Maps Go.Deep

def incI (r : List Ac) (l : List (Int × Int)) : List (Int × Int) := (l.filter (pickB r [4])).map negB
def incO (r : List Ac) (l : List (Int × Int)) : List (Int × Int) := l.filter (pickB r [5])
/-- earned, spent, left; the error -/
def incR (r : List Ac) (l : List (Int × Int)) : (Int × Int × Int) × Int :=
  let a := addM ((incI r l).map (·.2))
  let b := addM ((incO r l).map (·.2))
  let n := addM [a.1, -b.1]
  if a.2 != 0 then ((0, 0, 0), a.2) else if b.2 != 0 then ((0, 0, 0), b.2) else if n.2 != 0 then ((0, 0, 0), n.2) else ((a.1, b.1, n.1), 0)
def IncP (w : World) (r : List Ac) (l : List (Int × Int)) (t : (Int × Int × Int) × Int) (e : Ending) (w' : World) : Prop :=
  ∃ v1 v2, e = .returned (.tuple #[.agg #[v1, v2, .int .i64 t.1.1, .int .i64 t.1.2.1, .int .i64 t.1.2.2], .int .i64 t.2]) ∧
    (t.2 = 0 → OwnL tBal w' w.heap.size v1 (incI r l) ∧ OwnL tBal w' w.heap.size v2 (incO r l) ∧ (v1.ownBlock = none ∨ v1.ownBlock ≠ v2.ownBlock)) ∧ (t.2 ≠ 0 → v1 = .slice none 0 0 ∧ v2 = .slice none 0 0) ∧ Below w.heap.size w w'
theorem addM_fit (l : List Int) : fitsB (addM l).1 = true := by
  unfold addM
  split
  · unfold fitS
    split
    · assumption
    · rfl
  · rfl
theorem five (w : World) (b : Nat) {t : TypeId} {x0 x1 x2 x3 x4 : Value} (h : w.heap[b]? = some (.cells #[x0, x1, x2, x3, x4] t (0, 0))) (v0 v1 v2 v3 v4 : Value) :
    ∃ w4, (((((w.setCell ⟨b, 0, none⟩ v0).setCell ⟨b, 1, none⟩ v1).setCell ⟨b, 2, none⟩ v2).setCell ⟨b, 3, none⟩ v3).setCell ⟨b, 4, none⟩ v4) = w4 ∧ w4.heap[b]? = some (.cells #[v0, v1, v2, v3, v4] t (0, 0)) ∧ w4.heap.size = w.heap.size ∧
      (∀ k, k ≠ b → w4.heap[k]? = w.heap[k]?) ∧ (∀ B w0, Below B w0 w → B ≤ b → Below B w0 w4) := by
  refine ⟨_, rfl, ?_, by simp, fun k hk => ?_, fun B w0 hb hB => ?_⟩
  · have := blk_set (blk_set (blk_set (blk_set (blk_set h 0 v0) 1 v1) 2 v2) 3 v3) 4 v4
    simpa using this
  · iterate 5 (rw [Below.heap_setCell _ _ _ k hk])
  · iterate 5 (refine Below.setCell ?_ hB _)
    exact hb
theorem OwnL.slice' {w : World} {base : Nat} {a : Option Addr} {n c : Nat} {xs : List (Int × Int)} (h : OwnL tBal w base (.slice a n c) xs) : Sl tBal w (fun _ => True) a xs := by
  obtain ⟨a', c', he, _, _, hs⟩ := OwnL.slice h
  injection he with h1
  rw [h1]
  exact hs
theorem own_set {w w' : World} {base : Nat} {v : Value} {xs : List (Int × Int)} (h : OwnL tBal w base v xs) (hb : ∀ k, v.ownBlock = some k → w'.heap[k]? = w.heap[k]?) : OwnL tBal w' base v xs := by
  obtain ⟨css, h1, h2, h3, h4⟩ := h
  refine ⟨css, ⟨h1.1, ?_⟩, h2, h3, fun i c x hi hx => ?_⟩
  · rcases h1.2 with ⟨rfl, h0⟩ | ⟨g, cap, cur, rfl, hb', hc, hn, hm, hcs, ht⟩
    · exact .inl ⟨rfl, h0⟩
    · exact .inr ⟨g, cap, cur, rfl, hb', (hb g rfl).trans hc, hn, hm, hcs, ht⟩
  · obtain ⟨rfl, g1, g2⟩ := bal_inv (h4 i c x hi hx)
    exact bal_mk x g1 g2
theorem sl_one1 (x : Int) (b : Nat) (W : World) (hb : W.heap[b]? = some (.cells #[.int .i64 x] 3 (0, 0))) (h : I64 x) : Sl tInt W (fun _ => True) (some ⟨b, 0, none⟩) [x] := sl_oneI hb trivial h

end Go.Proofs.YtgggpaacagbmcaaGreat


/- income.Make: the statement of an entity. -/
set_option linter.unusedVariables false
set_option linter.unusedSimpArgs false
namespace Go.Proofs.YtgggpaacagbmcaaGreat
open Go.RowKit Go.Maps Go.Deep

/-- earned, spent, left; the error -/
def incM (r : List Ac) (J : List Jn) (e f t : Int) : (Int × Int × Int) × Int := if (balT J e f t).2 != 0 then ((0, 0, 0), (balT J e f t).2) else incR r (balT J e f t).1
theorem balT_cases (J : List Jn) (e f t : Int) : balT J e f t = ([], 1) ∨ balT J e f t = ([], 2) ∨ (rightB e f t = true ∧ (accR J e f t).all (fun x => fitsB x.2) = true ∧ balT J e f t = (accR J e f t, 0)) := by
  unfold balT
  cases h1 : rightB e f t
  · exact .inl rfl
  · cases h2 : (accR J e f t).all (fun x => fitsB x.2)
    · exact .inr (.inl rfl)
    · exact .inr (.inr ⟨rfl, rfl, rfl⟩)
theorem balT_fit {J : List Jn} {e f t : Int} : ∀ x ∈ (balT J e f t).1, fitsB x.2 = true := by
  rcases balT_cases J e f t with h | h | ⟨_, h2, h⟩
  · rw [h]; simp
  · rw [h]; simp
  · rw [h]
    simpa [List.all_eq_true] using h2
theorem balT_err (J : List Jn) (e f t : Int) : (balT J e f t).2 = 0 ∨ (balT J e f t).2 = 1 ∨ (balT J e f t).2 = 2 := by
  rcases balT_cases J e f t with h | h | ⟨_, _, h⟩ <;> rw [h] <;> simp
theorem balT_len {J : List Jn} (hg : GoodJ J) (hl : J.length ≤ 100) (e f t : Int) : (balT J e f t).1.length ≤ 800 := by
  rcases balT_cases J e f t with h | h | ⟨_, _, h⟩
  · rw [h]; simp
  · rw [h]; simp
  · rw [h]
    unfold accR
    refine Nat.le_trans (tellS_len _) (Nat.le_trans (accS_len _ _) ?_)
    have h1 := flat8 (l := J.filter (cnt e f t)) (fun x hx => hg x (List.mem_filter.1 hx).1)
    have h2 := List.length_filter_le (cnt e f t) J
    unfold linesOf
    simp only [List.length_nil]
    omega
theorem incM_is {r : List Ac} {J : List Jn} {e f t : Int} {l : List (Int × Int)} {er : Int} (h : balT J e f t = (l, er)) : incM r J e f t = if er != 0 then ((0, 0, 0), er) else incR r l := by
  unfold incM
  rw [h]

/-- what Make tells: the numbers, the error -/
def IncQ (w : World) (r : List Ac) (J : List Jn) (e f t : Int) (u : (Int × Int × Int) × Int) (en : Ending) (w' : World) : Prop :=
  ∃ v1 v2, en = .returned (.tuple #[.agg #[v1, v2, .int .i64 u.1.1, .int .i64 u.1.2.1, .int .i64 u.1.2.2], .int .i64 u.2]) ∧
    (u.2 = 0 → OwnL tBal w' w.heap.size v1 (incI r (balT J e f t).1) ∧ OwnL tBal w' w.heap.size v2 (incO r (balT J e f t).1) ∧ (v1.ownBlock = none ∨ v1.ownBlock ≠ v2.ownBlock)) ∧ (u.2 ≠ 0 → v1 = .slice none 0 0 ∧ v2 = .slice none 0 0) ∧ Below w.heap.size w w'

end Go.Proofs.YtgggpaacagbmcaaGreat


/- sheet: the first month of a year, sums kept, what some months came to. -/
set_option linter.unusedVariables false
set_option linter.unusedSimpArgs false
namespace Go.Proofs.YtgggpaacagbmcaaGreat
open Go.RowKit Go.Maps Go.Deep

def janOf (p : Int) : Int := p - p % 12
/-- what was there is as it was -/
def SM (w0 w : World) : Prop := Below w0.heap.size w0 w
theorem SM.drew {w0 w : World} (h : SM w0 w) : SM w0 w.drew := Below.drew h
theorem SM.call {w0 w w' : World} (h : SM w0 w) (hb : Below w.heap.size w w') : SM w0 w' := belows_then h h.size hb
theorem SM.alloc {w0 w : World} (h : SM w0 w) (o : Obj) : SM w0 (w.alloc o) := Below.alloc h h.size o
theorem SM.set {w0 w : World} (h : SM w0 w) {p : Addr} (hp : w0.heap.size ≤ p.block) (u : Value) : SM w0 (w.setCell p u) := Below.setCell h hp u
theorem SM.le {w0 w : World} (h : SM w0 w) : w0.heap.size ≤ w.heap.size := h.size
theorem SM.net {w0 w : World} {M t : Nat} {v0 v1 v2 c3 c4 c5 c6 c7 c8 c9 c10 c11 c12 c13 : Value} (hM : w0.heap[M]? = some (.cells #[v0, v1, v2, c3, c4, c5, c6, c7, c8, c9, c10, c11, c12, c13] t (0, 0))) (h : SM w0 w) :
    SM w0 w ∧ w.cell? ⟨M, 0, none⟩ = some v0 ∧ w.cell? ⟨M, 1, none⟩ = some v1 ∧ w.cell? ⟨M, 2, none⟩ = some v2 := by
  have hc := blk_cells (blk_below hM h)
  exact ⟨h, hc 0, hc 1, hc 2⟩
theorem incQ_slices {w w' : World} {r : List Ac} {J : List Jn} {e f t : Int} {u : (Int × Int × Int) × Int} {en : Ending} (h : IncQ w r J e f t u en w') : ∃ p1 n1 q1 p2 n2 q2, en = .returned (.tuple #[.agg #[.slice p1 n1 q1, .slice p2 n2 q2, .int .i64 u.1.1, .int .i64 u.1.2.1, .int .i64 u.1.2.2], .int .i64 u.2]) ∧ Below w.heap.size w w' := by
  obtain ⟨v1, v2, rfl, h0, h1, hb⟩ := h
  have hv1 : ∃ a n c, v1 = .slice a n c := by
    by_cases h : u.2 = 0
    · obtain ⟨a, c, e1, _⟩ := (h0 h).1.slice; exact ⟨_, _, _, e1⟩
    · exact ⟨_, _, _, (h1 h).1⟩
  have hv2 : ∃ a n c, v2 = .slice a n c := by
    by_cases h : u.2 = 0
    · obtain ⟨a, c, e1, _⟩ := (h0 h).2.1.slice; exact ⟨_, _, _, e1⟩
    · exact ⟨_, _, _, (h1 h).2⟩
  obtain ⟨p1, n1, q1, rfl⟩ := hv1
  obtain ⟨p2, n2, q2, rfl⟩ := hv2
  exact ⟨p1, n1, q1, p2, n2, q2, rfl, hb⟩

end Go.Proofs.YtgggpaacagbmcaaGreat


/- sheet: the maker's steps: all balances, what is owned. -/
set_option linter.unusedVariables false
set_option linter.unusedSimpArgs false
namespace Go.Proofs.YtgggpaacagbmcaaGreat
open Go.RowKit Go.Maps Go.Deep
variable {tb : Obj}

abbrev KLs := List (Value × List (Int × Int))
theorem SM.at' {w0 w : World} {M t : Nat} {cs : Array Value} (hM : w0.heap[M]? = some (.cells cs t (0, 0))) (h : SM w0 w) (o : Nat) {v : Value} (hv : cs[o]? = some v) : w.cell? ⟨M, o, none⟩ = some v := by
  rw [blk_cells (blk_below hM h), hv]

end Go.Proofs.YtgggpaacagbmcaaGreat
