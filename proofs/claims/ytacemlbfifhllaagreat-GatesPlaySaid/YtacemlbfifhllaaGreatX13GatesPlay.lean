/- Plain: gates hold what the document's gates hold, whatever is set. -/
import Derived.Test.YtacemlbfifhllaaGreatX12GatesPlay
set_option linter.unusedVariables false
set_option linter.unusedSimpArgs false
namespace Go.Proofs.YtacemlbfifhllaaGreat
open Go.RowKit Go.Maps

/-- a gate of the document: entity, period, state -/
abbrev Gt := Int × Int × Int
def gkey (x : Gt) : Int × Int := (x.1, x.2.1)
/-- the state that the document's gates hold -/
def refSt (R : List Gt) (e p : Int) : Int := if placeOk e p then ((R.find? (fun x => x.1 == e && x.2.1 == p)).map (·.2.2)).getD 0 else 2
def refMy (R : List Gt) (e p : Int) : Int := if placeOk e p then (if refSt R e p != 0 then 6 else 0) else 1
def aftB (y x : Gt) : Bool := decide (x.1 < y.1) || (y.1 == x.1 && decide (x.2.1 < y.2.1))
def othB (y x : Gt) : Bool := (y.1 != x.1) || (y.2.1 != x.2.1)
def sgStep (x : Gt) (st : List Gt × Bool) (y : Gt) : List Gt × Bool :=
  let st1 := if !st.2 && aftB y x then (st.1 ++ [x], true) else st
  if othB y x then (st1.1 ++ [y], st1.2) else st1
def sgFold (x : Gt) (R : List Gt) : List Gt × Bool := R.foldl (sgStep x) ([], x.2.2 == 0)
def gSetR (R : List Gt) (x : Gt) : List Gt := if (sgFold x R).2 then (sgFold x R).1 else (sgFold x R).1 ++ [x]
def gSetE (R : List Gt) (x : Gt) : Int := if !placeOk x.1 x.2.1 || decide (x.2.2 < 0) || decide (2 < x.2.2) then 1 else if refSt R x.1 x.2.1 == 2 || x.2.2 == 2 && refSt R x.1 x.2.1 != 1 then 11 else 0
def ltG (x y : Gt) : Prop := x.1 < y.1 ∨ x.1 = y.1 ∧ x.2.1 < y.2.1
theorem sgFold_succ (x : Gt) (R : List Gt) (n : Nat) (hn : n < R.length) : sgFold x (R.take (n + 1)) = sgStep x (sgFold x (R.take n)) R[n] := by
  unfold sgFold
  rw [List.take_succ_eq_append_getElem hn, List.foldl_append]
  rfl
theorem sgFold_len (x : Gt) : ∀ (R : List Gt) (st : List Gt × Bool), (R.foldl (sgStep x) st).1.length ≤ st.1.length + 2 * R.length
  | [], st => by simp
  | y :: r, st => by
    have ih := sgFold_len x r (sgStep x st y)
    have h1 : (sgStep x st y).1.length ≤ st.1.length + 2 := by
      unfold sgStep
      cases !st.2 && aftB y x <;> cases othB y x <;> simp
    rw [List.foldl_cons, List.length_cons]
    omega
def goR (x : Gt) : Bool → List Gt → List Gt
  | d, [] => if d then [] else [x]
  | d, y :: r => if !d && aftB y x then x :: (if othB y x then y :: goR x true r else goR x true r) else (if othB y x then y :: goR x d r else goR x d r)
theorem go_fold (x : Gt) : ∀ (R : List Gt) (acc : List Gt) (d : Bool), (if (R.foldl (sgStep x) (acc, d)).2 then (R.foldl (sgStep x) (acc, d)).1 else (R.foldl (sgStep x) (acc, d)).1 ++ [x]) = acc ++ goR x d R
  | [], acc, d => by cases d <;> simp [goR]
  | y :: r, acc, d => by
    have e : (y :: r).foldl (sgStep x) (acc, d) = r.foldl (sgStep x) (sgStep x (acc, d) y) := rfl
    rw [e]
    cases h1 : !d && aftB y x <;> cases h2 : othB y x
    · have : sgStep x (acc, d) y = (acc, d) := by simp [sgStep, h1, h2]
      rw [this, go_fold x r, goR, h1, h2]
      simp
    · have : sgStep x (acc, d) y = (acc ++ [y], d) := by simp [sgStep, h1, h2]
      rw [this, go_fold x r, goR, h1, h2]
      simp
    · have : sgStep x (acc, d) y = (acc ++ [x], true) := by simp [sgStep, h1, h2]
      rw [this, go_fold x r, goR, h1, h2]
      simp
    · have : sgStep x (acc, d) y = ((acc ++ [x]) ++ [y], true) := by simp [sgStep, h1, h2]
      rw [this, go_fold x r, goR, h1, h2]
      simp
theorem gSetR_go (R : List Gt) (x : Gt) : gSetR R x = goR x (x.2.2 == 0) R := by
  have h := go_fold x R [] (x.2.2 == 0)
  rw [List.nil_append] at h
  exact h
theorem oth_iff (y x : Gt) : othB y x = true ↔ gkey y ≠ gkey x := by
  unfold othB gkey
  simp only [Bool.or_eq_true, bne_iff_ne, ne_eq, Prod.mk.injEq]
  omega
theorem mem_go (x : Gt) : ∀ (R : List Gt) (d : Bool) (y : Gt), y ∈ goR x d R ↔ (d = false ∧ y = x) ∨ (y ∈ R ∧ gkey y ≠ gkey x)
  | [], d, y => by cases d <;> simp [goR]
  | z :: r, d, y => by
    have ih1 := mem_go x r true y
    have ih2 := mem_go x r d y
    rw [goR]
    have hz := oth_iff z x
    cases h1 : !d && aftB z x <;> cases h2 : othB z x
    · have hk : gkey z = gkey x := by rw [h2] at hz; simpa using hz
      simp only [if_false, List.mem_cons, ih2, Bool.false_eq_true]
      constructor
      · rintro (h | ⟨h, h'⟩)
        · exact .inl h
        · exact .inr ⟨.inr h, h'⟩
      · rintro (h | ⟨rfl | h, h'⟩)
        · exact .inl h
        · exact absurd hk h'
        · exact .inr ⟨h, h'⟩
    · have hk : gkey z ≠ gkey x := hz.1 h2
      simp only [if_false, if_true, List.mem_cons, ih2, Bool.false_eq_true]
      constructor
      · rintro (rfl | h | ⟨h, h'⟩)
        · exact .inr ⟨.inl rfl, hk⟩
        · exact .inl h
        · exact .inr ⟨.inr h, h'⟩
      · rintro (h | ⟨rfl | h, h'⟩)
        · exact .inr (.inl h)
        · exact .inl rfl
        · exact .inr (.inr ⟨h, h'⟩)
    · have hk : gkey z = gkey x := by rw [h2] at hz; simpa using hz
      have hd : d = false := by cases d <;> simp_all
      simp only [if_true, if_false, List.mem_cons, ih1, Bool.false_eq_true]
      constructor
      · rintro (h | ⟨h, _⟩ | ⟨h, h'⟩)
        · exact .inl ⟨hd, h⟩
        · cases h
        · exact .inr ⟨.inr h, h'⟩
      · rintro (⟨_, h⟩ | ⟨rfl | h, h'⟩)
        · exact .inl h
        · exact absurd hk h'
        · exact .inr (.inr ⟨h, h'⟩)
    · have hk : gkey z ≠ gkey x := hz.1 h2
      have hd : d = false := by cases d <;> simp_all
      simp only [if_true, List.mem_cons, ih1]
      constructor
      · rintro (h | rfl | ⟨h, _⟩ | ⟨h, h'⟩)
        · exact .inl ⟨hd, h⟩
        · exact .inr ⟨.inl rfl, hk⟩
        · cases h
        · exact .inr ⟨.inr h, h'⟩
      · rintro (⟨_, h⟩ | ⟨rfl | h, h'⟩)
        · exact .inl h
        · exact .inr (.inl rfl)
        · exact .inr (.inr (.inr ⟨h, h'⟩))
theorem aft_iff (y x : Gt) : aftB y x = true ↔ ltG x y := by
  unfold aftB ltG
  simp only [Bool.or_eq_true, Bool.and_eq_true, decide_eq_true_eq, beq_iff_eq]
  omega
theorem ltG_trans {x y z : Gt} (h1 : ltG x y) (h2 : ltG y z) : ltG x z := by unfold ltG at *; omega
theorem ltG_key {x y : Gt} (h : ltG x y) : gkey x ≠ gkey y := by
  unfold ltG at h
  unfold gkey
  intro e
  rw [Prod.mk.injEq] at e
  omega
theorem go_sorted (x : Gt) : ∀ (R : List Gt) (d : Bool), R.Pairwise ltG → (goR x d R).Pairwise ltG
  | [], d, _ => by cases d <;> simp [goR]
  | z :: r, d, h => by
    rw [List.pairwise_cons] at h
    have ih1 := go_sorted x r true h.2
    have ih2 := go_sorted x r d h.2
    rw [goR]
    have hz := oth_iff z x
    have ha := aft_iff z x
    cases h1 : !d && aftB z x <;> cases h2 : othB z x
    · simpa using ih2
    · simp only [Bool.false_eq_true, if_false, if_true, List.pairwise_cons]
      refine ⟨fun y hy => ?_, ih2⟩
      rcases (mem_go x r d y).1 hy with ⟨hd, rfl⟩ | ⟨hy, _⟩
      · have hna : aftB z y = false := by rw [hd] at h1; simpa using h1
        have hne : gkey z ≠ gkey y := hz.1 h2
        have hn : ¬ ltG y z := fun hh => by rw [ha.2 hh] at hna; cases hna
        unfold ltG at hn ⊢
        unfold gkey at hne
        rw [ne_eq, Prod.mk.injEq] at hne
        omega
      · exact h.1 y hy
    all_goals
      have hd : d = false := by cases d <;> simp_all
      have hxz : ltG x z := ha.1 (by simp_all)
    · simp only [Bool.false_eq_true, if_false, if_true, List.pairwise_cons]
      refine ⟨fun y hy => ?_, ih1⟩
      rcases (mem_go x r true y).1 hy with ⟨h, _⟩ | ⟨hy, _⟩
      · cases h
      · exact ltG_trans hxz (h.1 y hy)
    · simp only [if_true, List.pairwise_cons, List.mem_cons]
      refine ⟨fun y hy => ?_, fun y hy => ?_, ih1⟩
      · rcases hy with rfl | hy
        · exact hxz
        · rcases (mem_go x r true y).1 hy with ⟨h, _⟩ | ⟨hy, _⟩
          · cases h
          · exact ltG_trans hxz (h.1 y hy)
      · rcases (mem_go x r true y).1 hy with ⟨h, _⟩ | ⟨hy, _⟩
        · cases h
        · exact h.1 y hy
/-- gates that hold what the document's hold -/
structure GInv (l : Gs) (R : List Gt) : Prop where
  sorted : R.Pairwise ltG
  ok : ∀ x ∈ R, placeOk x.1 x.2.1 = true ∧ 1 ≤ x.2.2 ∧ x.2.2 ≤ 2
  mem : ∀ e p s, look l (e, p) = some s ↔ (e, p, s) ∈ R
theorem key_oneG {R : List Gt} (h : R.Pairwise ltG) {x y : Gt} (hx : x ∈ R) (hy : y ∈ R) (hk : gkey x = gkey y) : x = y := by
  obtain ⟨i, hi, rfl⟩ := List.mem_iff_getElem.1 hx
  obtain ⟨j, hj, rfl⟩ := List.mem_iff_getElem.1 hy
  rcases Nat.lt_trichotomy i j with hij | hij | hij
  · exact absurd hk (ltG_key (List.pairwise_iff_getElem.1 h i j hi hj hij))
  · subst hij; rfl
  · exact absurd hk.symm (ltG_key (List.pairwise_iff_getElem.1 h j i hj hi hij))
theorem find_ref {R : List Gt} (h : R.Pairwise ltG) (e p s : Int) : (R.find? (fun x => x.1 == e && x.2.1 == p)).map (·.2.2) = some s ↔ (e, p, s) ∈ R := by
  constructor
  · intro hf
    obtain ⟨x, hx, rfl⟩ := Option.map_eq_some_iff.1 hf
    have h1 := List.find?_some hx
    have h2 := List.mem_of_find?_eq_some hx
    simp only [Bool.and_eq_true, beq_iff_eq] at h1
    obtain ⟨a, b, c⟩ := x
    simp only at h1
    obtain ⟨rfl, rfl⟩ := h1
    exact h2
  · intro hm
    cases hf : R.find? (fun x => x.1 == e && x.2.1 == p) with
    | none =>
      have := List.find?_eq_none.1 hf _ hm
      simp at this
    | some x =>
      have h1 := List.find?_some hf
      have h2 := List.mem_of_find?_eq_some hf
      simp only [Bool.and_eq_true, beq_iff_eq] at h1
      have := key_oneG h h2 hm (by unfold gkey; rw [h1.1, h1.2])
      rw [this]
      rfl
theorem opt_extG {a b : Option Int} (h : ∀ s, a = some s ↔ b = some s) : a = b := by
  cases a with
  | none =>
    cases b with
    | none => rfl
    | some s => exact absurd ((h s).2 rfl) (by simp)
  | some s => exact ((h s).1 rfl).symm
theorem GInv.look_ref {l : Gs} {R : List Gt} (h : GInv l R) (e p : Int) : look l (e, p) = (R.find? (fun x => x.1 == e && x.2.1 == p)).map (·.2.2) :=
  opt_extG (fun s => (h.mem e p s).trans (find_ref h.sorted e p s).symm)
theorem GInv.state {l : Gs} {R : List Gt} (h : GInv l R) (e p : Int) : stateTell l e p = refSt R e p := by
  unfold stateTell refSt stateOf
  rw [h.look_ref]
theorem GInv.may {l : Gs} {R : List Gt} (h : GInv l R) (e p : Int) : mayTell l e p = refMy R e p := by
  have h1 := h.state e p
  unfold stateTell at h1
  unfold mayTell refMy
  cases hp : placeOk e p
  · rfl
  · rw [hp] at h1
    simp only [if_true] at h1 ⊢
    rw [h1]
    by_cases h0 : refSt R e p = 0
    · simp [h0]
    · simp [h0]
theorem GInv.err {l : Gs} {R : List Gt} (h : GInv l R) (x : Gt) : setE l x.1 x.2.1 x.2.2 = gSetE R x := by
  unfold setE gSetE
  cases hp : placeOk x.1 x.2.1
  · simp
  · have h1 := h.state x.1 x.2.1
    unfold stateTell at h1
    rw [hp, if_pos rfl] at h1
    rw [h1]
    unfold mayB
    split
    · rfl
    · generalize refSt R x.1 x.2.1 = q
      by_cases h2 : q = 2
      · simp [h2]
      · by_cases h3 : x.2.2 = 2
        · by_cases h4 : q = 1
          · simp [h3, h4]
          · simp [h2, h3, h4]
        · simp [h2, h3]
theorem look_delG (l : Gs) (k j : Int × Int) : look (del l k) j = if j = k then none else look l j := by
  unfold look del
  by_cases h : j = k
  · subst h
    rw [if_pos rfl, Option.map_eq_none_iff, List.find?_eq_none]
    intro x hx
    have := (List.mem_filter.1 hx).2
    simpa using this
  · rw [if_neg h]
    rw [List.find?_filter]
    congr 2
    funext y
    by_cases hy : y.1 = j
    · have : ¬ y.1 = k := fun e => h (hy.symm.trans e)
      simp [hy, h]
    · simp [hy]
theorem look_insG (s : Gs) (k j : Int × Int) (v : Int) : look (ins s k v) j = if j = k then some v else look s j := by
  induction s with
  | nil =>
    by_cases h : j = k
    · subst h; simp [ins, look]
    · have h' : ¬ k = j := fun e => h e.symm
      simp [ins, look, h, h']
  | cons x r ih =>
    by_cases hx : x.1 = k
    · by_cases h : j = k
      · subst h; simp [ins, look, hx]
      · have h' : ¬ k = j := fun e => h e.symm
        simp [ins, look, hx, h, h']
    · by_cases hj : x.1 = j
      · have h : ¬ j = k := fun e => hx (hj.trans e)
        simp [ins, look, hx, hj, h]
      · have : (look (ins (x :: r) k v) j) = look (ins r k v) j := by simp [ins, look, hx, hj]
        rw [this, ih]
        have : look (x :: r) j = look r j := by simp [look, hj]
        rw [this]
theorem GInv.set {l : Gs} {R : List Gt} (h : GInv l R) (x : Gt) (he : gSetE R x = 0) : GInv (setL l x.1 x.2.1 x.2.2) (gSetR R x) := by
  have hok : placeOk x.1 x.2.1 = true ∧ 0 ≤ x.2.2 ∧ x.2.2 ≤ 2 := by
    unfold gSetE at he
    split at he
    · omega
    · rename_i hh
      simp only [Bool.or_eq_true, Bool.not_eq_true', decide_eq_true_eq, not_or, Bool.not_eq_false] at hh
      exact ⟨hh.1.1, by omega, by omega⟩
  obtain ⟨e, p, s⟩ := x
  simp only at hok
  have hm := mem_go (e, p, s) R (s == 0)
  rw [gSetR_go]
  refine ⟨go_sorted _ _ _ h.sorted, fun y hy => ?_, fun a b c => ?_⟩
  · rcases (hm y).1 hy with ⟨hs, rfl⟩ | ⟨hy, _⟩
    · have hs' : ¬ s = 0 := by simpa using hs
      exact ⟨hok.1, by show 1 ≤ s; omega, hok.2.2⟩
    · exact h.ok y hy
  · have hmc := hm (a, b, c)
    simp only at hmc ⊢
    rw [hmc]
    unfold setL
    by_cases hs : s = 0
    · subst hs
      simp only [beq_self_eq_true, if_true, look_delG]
      unfold gkey
      simp only
      by_cases hk : (a, b) = (e, p)
      · simp [hk]
      · rw [if_neg hk, h.mem]
        simp [hk]
    · have hs' : (s == 0) = false := by simpa using hs
      rw [hs']
      simp only [Bool.false_eq_true, if_false, look_insG]
      unfold gkey
      simp only
      by_cases hk : (a, b) = (e, p)
      · rw [if_pos hk]
        rw [Prod.mk.injEq] at hk
        obtain ⟨rfl, rfl⟩ := hk
        simp [eq_comm]
      · rw [if_neg hk, h.mem]
        simp only [hk, not_false_eq_true, and_true, ne_eq]
        constructor
        · exact fun hh => .inr hh
        · rintro (⟨_, hh⟩ | hh)
          · rw [Prod.mk.injEq, Prod.mk.injEq] at hh
            exact absurd (by rw [hh.1, hh.2.1]) hk
          · exact hh
theorem GInv.nil : GInv [] [] := ⟨List.Pairwise.nil, by simp, by simp [look]⟩
theorem gt_ext {A B : List Gt} (hA : A.Pairwise ltG) (hB : B.Pairwise ltG) (h : ∀ x, x ∈ A ↔ x ∈ B) : A = B := by
  have nd : ∀ {L : List Gt}, L.Pairwise ltG → L.Nodup := fun h => h.imp (fun {x y} hxy e => by rw [e] at hxy; unfold ltG at hxy; omega)
  have hp : A.Perm B := (List.perm_ext_iff_of_nodup (nd hA) (nd hB)).2 h
  exact List.Perm.eq_of_pairwise (le := ltG) (fun a b _ _ h1 h2 => by unfold ltG at h1 h2; omega) hA hB hp
/-- what All tells: the keys in order, with their states -/
def allK (l : Gs) (ks : List (Int × Int)) : List Gt := ks.map (fun k => (k.1, k.2, stateOf l k.1 k.2))
theorem allK_ref {l : Gs} {R : List Gt} (h : GInv l R) {ks : List (Int × Int)} (hs : ks.Pairwise (fun x y => x.1 < y.1 ∨ x.1 = y.1 ∧ x.2 < y.2)) (hm : ∀ k, k ∈ ks ↔ k ∈ l.map (·.1)) : allK l ks = R := by
  have hlk : ∀ k : Int × Int, k ∈ l.map (·.1) ↔ ∃ s, look l k = some s := fun k => by
    unfold look
    constructor
    · intro hk
      obtain ⟨x, hx, rfl⟩ := List.mem_map.1 hk
      cases hf : l.find? (fun y => decide (y.1 = x.1)) with
      | none => have := List.find?_eq_none.1 hf x hx; simp at this
      | some y => exact ⟨y.2, rfl⟩
    · rintro ⟨s, hs⟩
      obtain ⟨x, hx, _⟩ := Option.map_eq_some_iff.1 hs
      have h1 := List.find?_some hx
      simp only [decide_eq_true_eq] at h1
      exact List.mem_map.2 ⟨x, List.mem_of_find?_eq_some hx, h1⟩
  refine gt_ext ?_ h.sorted (fun x => ?_)
  · unfold allK
    rw [List.pairwise_map]
    exact hs.imp (fun hh => hh)
  · unfold allK
    rw [List.mem_map]
    constructor
    · rintro ⟨k, hk, rfl⟩
      obtain ⟨s, hs⟩ := (hlk k).1 ((hm k).1 hk)
      have : stateOf l k.1 k.2 = s := by unfold stateOf; rw [hs]; rfl
      rw [this]
      exact (h.mem k.1 k.2 s).1 hs
    · intro hx
      obtain ⟨e, p, s⟩ := x
      have hl := (h.mem e p s).2 hx
      refine ⟨(e, p), (hm _).2 ((hlk _).2 ⟨s, hl⟩), ?_⟩
      unfold stateOf
      rw [hl]
      rfl
theorem gSetR_len (R : List Gt) (x : Gt) : (gSetR R x).length ≤ R.length + 1 := by
  rw [gSetR_go]
  have : ∀ (R : List Gt) (d : Bool), (goR x d R).length ≤ R.length + (if d then 0 else 1) := by
    intro R
    induction R with
    | nil => intro d; cases d <;> simp [goR]
    | cons y r ih =>
      intro d
      rw [goR]
      have h1 := ih true
      have h2 := ih d
      cases d <;> cases aftB y x <;> cases othB y x <;> simp at h1 h2 ⊢ <;> omega
  have h := this R (x.2.2 == 0)
  split at h <;> omega
end Go.Proofs.YtacemlbfifhllaaGreat
