/- Plain: books that may be, what Fit and Put make of them. -/
import Derived.Test.YtacemlbfifhllaaGreatX09GatesPlay
import Derived.Test.YtacemlbfifhllaaGreatX17GatesPlay
set_option linter.unusedVariables false
set_option linter.unusedSimpArgs false
namespace Go.Proofs.YtacemlbfifhllaaGreat
open Go.RowKit Go.Maps

structure ValJ (l : List Jn) : Prop where
  inc : l.Pairwise (fun x y => x.id < y.id)
  ok : ∀ x ∈ l, chk x = 0
  free : ∀ x ∈ l, takenJ l x = false
  len : l.length ≤ 200
theorem incJ_iff {l : List Jn} : IncJ l ↔ l.Pairwise (fun x y => x.id < y.id) := (List.pairwise_iff_getElem (R := fun x y : Jn => x.id < y.id)).symm
theorem ValJ.incJ {l : List Jn} (h : ValJ l) : IncJ l := incJ_iff.2 h.inc
theorem ValJ.ordJ {l : List Jn} (h : ValJ l) : OrdJ l := ⟨h.incJ, fun x hx => ⟨(chk_id (h.ok x hx)).1, (chk_id (h.ok x hx)).2.1⟩⟩
theorem chk_len {j : Jn} (h : chk j = 0) : j.lines.length ≤ 8 := by
  have hf : frontBad j = false := by
    cases hh : frontBad j with
    | false => rfl
    | true => simp [chk, hh] at h
  have := (front_ok hf).2.2.2.2.2.2.2
  omega
theorem ValJ.good {l : List Jn} (h : ValJ l) : GoodJ l := fun x hx => ⟨(chk_id (h.ok x hx)).2.2, chk_len (h.ok x hx)⟩
theorem ValJ.nil : ValJ [] := ⟨List.Pairwise.nil, by simp, by simp, by simp⟩

theorem taken_iff {l : List Jn} {x : Jn} : takenJ l x = true ↔ x.ref.toList.isEmpty = false ∧ x.void = false ∧ ∃ z ∈ l, clash x z = true := by
  unfold takenJ
  simp only [Bool.and_eq_true, Bool.not_eq_true', List.any_eq_true]
theorem taken_sub {l l' : List Jn} {x : Jn} (h : takenJ l x = false) (hs : ∀ z ∈ l', z ∈ l) : takenJ l' x = false := by
  cases h' : takenJ l' x with
  | false => rfl
  | true =>
    obtain ⟨h1, h2, z, hz, hc⟩ := taken_iff.1 h'
    rw [taken_iff.2 ⟨h1, h2, z, hs z hz, hc⟩] at h
    cases h
theorem clash_iff {x z : Jn} : clash x z = true ↔ z.id ≠ x.id ∧ z.void = false ∧ z.ref.toList = x.ref.toList ∧ z.en = x.en := by
  unfold clash
  simp

theorem ValJ.filter {l : List Jn} (h : ValJ l) (p : Jn → Bool) : ValJ (l.filter p) :=
  ⟨h.inc.filter p, fun x hx => h.ok x (List.mem_filter.1 hx).1, fun x hx => taken_sub (h.free x (List.mem_filter.1 hx).1) (fun z hz => (List.mem_filter.1 hz).1), Nat.le_trans (List.length_filter_le _ _) h.len⟩

theorem hasJ_iff {l : List Jn} {id : Int} : hasJ l id = true ↔ ∃ x ∈ l, x.id = id := by
  unfold hasJ
  simp [List.any_eq_true]
theorem post_zero {O : List Jn} {x : Jn} (h : postJ O x = 0) : chk x = 0 ∧ hasJ O x.id = false ∧ takenJ O x = false ∧ O.length < 200 := by
  rcases post_cases O x with ⟨h1, h2⟩ | ⟨h1, ⟨h2, h3⟩ | ⟨h2, ⟨h3, h4⟩ | ⟨h3, ⟨h4, h5⟩ | ⟨h4, h5⟩⟩⟩⟩
  · rw [h] at h2
    rw [← h2] at h1
    cases h1
  · rw [h] at h3; cases h3
  · rw [h] at h4; cases h4
  · rw [h] at h5; cases h5
  · exact ⟨by simpa using h1, h2, h3, by omega⟩
theorem post_mk {O : List Jn} {x : Jn} (h1 : chk x = 0) (h2 : hasJ O x.id = false) (h3 : takenJ O x = false) (h4 : O.length < 200) : postJ O x = 0 := by
  have : decide (200 ≤ (O.length : Int)) = false := by simp; omega
  unfold postJ
  rw [h1, h2, h3, this]
  rfl

theorem ofFrom_all : ∀ (l d : List Jn), (∀ n (h : n < l.length), postJ (d ++ l.take n) l[n] = 0) → ofFrom d l = true
  | [], _, _ => rfl
  | x :: r, d, h => by
    have h0 := h 0 (by simp)
    simp only [List.take_zero, List.append_nil, List.getElem_cons_zero] at h0
    unfold ofFrom
    rw [h0, ofFrom_all r (d ++ [x]) (fun n hn => by
      have := h (n + 1) (by simpa using hn)
      simpa using this)]
    rfl
theorem ValJ.of {l : List Jn} (h : ValJ l) : ofB l = true := by
  unfold ofB
  refine ofFrom_all l [] (fun n hn => ?_)
  rw [List.nil_append]
  refine post_mk (h.ok _ (List.getElem_mem hn)) ?_ (taken_sub (h.free _ (List.getElem_mem hn)) (fun z hz => List.mem_of_mem_take hz)) (by rw [List.length_take]; have := h.len; omega)
  cases hh : hasJ (l.take n) l[n].id with
  | false => rfl
  | true =>
    obtain ⟨x, hx, he⟩ := hasJ_iff.1 hh
    have := inc_new h.incJ hn x hx
    omega

theorem putS_done (j : Jn) : ∀ (l o : List Jn), (∀ y ∈ l, y.id ≠ j.id) → l.foldl (putStep j) (o, true) = (o ++ l, true)
  | [], o, _ => by simp
  | y :: r, o, h => by
    have hy : (y.id != j.id) = true := by simpa using h y (List.mem_cons_self ..)
    rw [List.foldl_cons]
    have : putStep j (o, true) y = (o ++ [y], true) := by simp [putStep, hy]
    rw [this, putS_done j r (o ++ [y]) (fun z hz => h z (List.mem_cons_of_mem _ hz))]
    simp
theorem putS_ahead (j : Jn) : ∀ (l o : List Jn), (∀ y ∈ l, y.id < j.id) → l.foldl (putStep j) (o, false) = (o ++ l, false)
  | [], o, _ => by simp
  | y :: r, o, h => by
    have h1 := h y (List.mem_cons_self ..)
    have hy : (y.id != j.id) = true := by simp; omega
    rw [List.foldl_cons]
    have : putStep j (o, false) y = (o ++ [y], false) := by
      have hd : decide (j.id ≤ y.id) = false := by simp; omega
      simp only [putStep, hd, Bool.not_false, Bool.and_false, Bool.false_eq_true, if_false, hy, if_true]
    rw [this, putS_ahead j r (o ++ [y]) (fun z hz => h z (List.mem_cons_of_mem _ hz))]
    simp
/-- where Put puts it -/
theorem putJ_split (j : Jn) (a b : List Jn) (ha : ∀ y ∈ a, y.id < j.id) (hb : ∀ y ∈ b, j.id < y.id) : putJ (a ++ b) j = a ++ j :: b := by
  unfold putJ putS
  rw [List.foldl_append, putS_ahead j a [] ha, List.nil_append]
  cases b with
  | nil => simp
  | cons y r =>
    have h1 := hb y (List.mem_cons_self ..)
    have hy : (y.id != j.id) = true := by simp; omega
    have hd : decide (j.id ≤ y.id) = true := by simp; omega
    have : putStep j (a, false) y = (a ++ [j] ++ [y], true) := by simp only [putStep, hd, Bool.not_false, Bool.and_true, if_true, hy]
    rw [List.foldl_cons, this, putS_done j r _ (fun z hz => by have := hb z (List.mem_cons_of_mem _ hz); omega)]
    simp
theorem split_at {l : List Jn} (h : l.Pairwise (fun x y => x.id < y.id)) (id : Int) : ∃ a b, l = a ++ b ∧ (∀ y ∈ a, y.id < id) ∧ (∀ y ∈ b, id ≤ y.id) := by
  induction l with
  | nil => exact ⟨[], [], rfl, by simp, by simp⟩
  | cons x r ih =>
    rw [List.pairwise_cons] at h
    by_cases hx : x.id < id
    · obtain ⟨a, b, rfl, h1, h2⟩ := ih h.2
      exact ⟨x :: a, b, rfl, fun y hy => by rcases List.mem_cons.1 hy with rfl | hy; exact hx; exact h1 y hy, h2⟩
    · exact ⟨[], x :: r, rfl, by simp, fun y hy => by
        rcases List.mem_cons.1 hy with rfl | hy
        · omega
        · have := h.1 y hy; omega⟩

theorem ValJ.put {O : List Jn} (h : ValJ O) {x : Jn} (hp : postJ O x = 0) : ValJ (putJ O x) ∧ (∀ y, y ∈ putJ O x ↔ y = x ∨ y ∈ O) := by
  obtain ⟨hc, hn, ht, hl⟩ := post_zero hp
  obtain ⟨a, b, hO, ha, hb⟩ := split_at h.inc x.id
  have hne : ∀ y ∈ O, y.id ≠ x.id := fun y hy e => by rw [hasJ_iff.2 ⟨y, hy, e⟩] at hn; cases hn
  have hb' : ∀ y ∈ b, x.id < y.id := fun y hy => by
    have := hb y hy
    have := hne y (by rw [hO]; exact List.mem_append_right _ hy)
    omega
  have hput : putJ O x = a ++ x :: b := by rw [hO]; exact putJ_split x a b ha hb'
  have hmem : ∀ y, y ∈ putJ O x ↔ y = x ∨ y ∈ O := by
    intro y
    rw [hput, hO]
    simp only [List.mem_append, List.mem_cons]
    constructor
    · rintro (h | rfl | h)
      · exact .inr (.inl h)
      · exact .inl rfl
      · exact .inr (.inr h)
    · rintro (rfl | h | h)
      · exact .inr (.inl rfl)
      · exact .inl h
      · exact .inr (.inr h)
  refine ⟨⟨?_, ?_, ?_, ?_⟩, hmem⟩
  · rw [hput]
    have hp := h.inc
    rw [hO, List.pairwise_append] at hp
    rw [List.pairwise_append, List.pairwise_cons]
    refine ⟨hp.1, ⟨hb', hp.2.1⟩, fun y hy z hz => ?_⟩
    rcases List.mem_cons.1 hz with rfl | hz
    · exact ha y hy
    · exact hp.2.2 y hy z hz
  · intro y hy
    rcases (hmem y).1 hy with rfl | hy
    · exact hc
    · exact h.ok y hy
  · intro y hy
    cases hh : takenJ (putJ O x) y with
    | false => rfl
    | true =>
      obtain ⟨h1, h2, z, hz, hcl⟩ := taken_iff.1 hh
      obtain ⟨c1, c2, c3, c4⟩ := clash_iff.1 hcl
      rcases (hmem y).1 hy with rfl | hyO
      · rcases (hmem z).1 hz with rfl | hz
        · exact absurd rfl c1
        · rw [taken_iff.2 ⟨h1, h2, z, hz, hcl⟩] at ht
          cases ht
      · rcases (hmem z).1 hz with rfl | hz
        · have : takenJ O z = true := taken_iff.2 ⟨by rw [c3]; exact h1, c2, y, hyO, clash_iff.2 ⟨fun e => c1 e.symm, h2, c3.symm, c4.symm⟩⟩
          rw [this] at ht
          cases ht
        · have := h.free y hyO
          rw [taken_iff.2 ⟨h1, h2, z, hz, hcl⟩] at this
          cases this
  · rw [hput]
    have := congrArg List.length hO
    simp only [List.length_append, List.length_cons] at this ⊢
    omega

theorem ValJ.fit {m : Nat} : ∀ (l : List Jn) {O : List Jn}, ValJ O → ValJ (l.foldl (fitStep m) O)
  | [], _, h => h
  | x :: r, O, h => by
    rw [List.foldl_cons]
    refine ValJ.fit r ?_
    unfold fitStep
    split
    · split
      · rename_i hc
        simp only [Bool.and_eq_true, beq_iff_eq] at hc
        exact (h.put hc.2).1
      · exact h
    · exact h
theorem fit_val (m : Nat) (l : List Jn) : ValJ (fitJ m l) := ValJ.fit l ValJ.nil

theorem linesOf_filter (l : List Jn) (e f t : Int) : linesOf (l.filter (cnt e f t)) e f t = linesOf l e f t := by
  unfold linesOf
  rw [List.filter_filter]
  simp
theorem balT_filter (l : List Jn) (e f t : Int) : balT (l.filter (cnt e f t)) e f t = balT l e f t := by
  unfold balT accR
  rw [linesOf_filter]
theorem parT_filter (l : List Jn) (e f t : Int) : parT (l.filter (cnt e f t)) e f t = parT l e f t := by
  unfold parT parR
  rw [linesOf_filter, balT_filter]
end Go.Proofs.YtacemlbfifhllaaGreat
