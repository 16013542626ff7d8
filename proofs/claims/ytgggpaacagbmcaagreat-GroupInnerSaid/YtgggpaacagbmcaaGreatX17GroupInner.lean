/- Plain: books that may be, what Fit and Put make of them. -/
import Derived.Test.YtgggpaacagbmcaaGreatX09GroupInner
import Derived.Test.YtgggpaacagbmcaaGreatX14GroupInner
import Derived.Test.YtgggpaacagbmcaaGreatX15GroupInner
import Derived.Test.YtgggpaacagbmcaaGreatX16GroupInner
set_option linter.unusedVariables false
set_option linter.unusedSimpArgs false
namespace Go.Proofs.YtgggpaacagbmcaaGreat
open Go.RowKit Go.Maps

structure ValJ (l : List Jn) : Prop where
  inc : l.Pairwise (fun x y => x.id < y.id)
  ok : ∀ x ∈ l, chk x = 0
  free : ∀ x ∈ l, takenJ l x = false
  len : l.length ≤ 200
theorem incJ_iff {l : List Jn} : IncJ l ↔ l.Pairwise (fun x y => x.id < y.id) := (List.pairwise_iff_getElem (R := fun x y : Jn => x.id < y.id)).symm
theorem ValJ.incJ {l : List Jn} (h : ValJ l) : IncJ l := incJ_iff.2 h.inc
theorem ValJ.ordJ {l : List Jn} (h : ValJ l) : OrdJ l := ⟨h.incJ, fun x hx => ⟨(chk_id (h.ok x hx)).1, (chk_id (h.ok x hx)).2.1⟩⟩
theorem chk_len {j : Jn} (h : chk j = 0) : j.lines.length ≤ 8 := by
  have hf : frontBad j = false := by
    cases hh : frontBad j with
    | false => rfl
    | true => simp [chk, hh] at h
  have := (front_ok hf).2.2.2.2.2.2.2
  omega
theorem ValJ.good {l : List Jn} (h : ValJ l) : GoodJ l := fun x hx => ⟨(chk_id (h.ok x hx)).2.2, chk_len (h.ok x hx)⟩
theorem ValJ.nil : ValJ [] := ⟨List.Pairwise.nil, by simp, by simp, by simp⟩

theorem taken_iff {l : List Jn} {x : Jn} : takenJ l x = true ↔ x.ref.toList.isEmpty = false ∧ x.void = false ∧ ∃ z ∈ l, clash x z = true := by
  unfold takenJ
  simp only [Bool.and_eq_true, Bool.not_eq_true', List.any_eq_true]
theorem taken_sub {l l' : List Jn} {x : Jn} (h : takenJ l x = false) (hs : ∀ z ∈ l', z ∈ l) : takenJ l' x = false := by
  cases h' : takenJ l' x with
  | false => rfl
  | true =>
    obtain ⟨h1, h2, z, hz, hc⟩ := taken_iff.1 h'
    rw [taken_iff.2 ⟨h1, h2, z, hs z hz, hc⟩] at h
    cases h
theorem clash_iff {x z : Jn} : clash x z = true ↔ z.id ≠ x.id ∧ z.void = false ∧ z.ref.toList = x.ref.toList ∧ z.en = x.en := by
  unfold clash
  simp

theorem ValJ.filter {l : List Jn} (h : ValJ l) (p : Jn → Bool) : ValJ (l.filter p) :=
  ⟨h.inc.filter p, fun x hx => h.ok x (List.mem_filter.1 hx).1, fun x hx => taken_sub (h.free x (List.mem_filter.1 hx).1) (fun z hz => (List.mem_filter.1 hz).1), Nat.le_trans (List.length_filter_le _ _) h.len⟩

theorem hasJ_iff {l : List Jn} {id : Int} : hasJ l id = true ↔ ∃ x ∈ l, x.id = id := by
  unfold hasJ
  simp [List.any_eq_true]
theorem post_zero {O : List Jn} {x : Jn} (h : postJ O x = 0) : chk x = 0 ∧ hasJ O x.id = false ∧ takenJ O x = false ∧ O.length < 200 := by
  rcases post_cases O x with ⟨h1, h2⟩ | ⟨h1, ⟨h2, h3⟩ | ⟨h2, ⟨h3, h4⟩ | ⟨h3, ⟨h4, h5⟩ | ⟨h4, h5⟩⟩⟩⟩
  · rw [h] at h2
    rw [← h2] at h1
    cases h1
  · rw [h] at h3; cases h3
  · rw [h] at h4; cases h4
  · rw [h] at h5; cases h5
  · exact ⟨by simpa using h1, h2, h3, by omega⟩
theorem post_mk {O : List Jn} {x : Jn} (h1 : chk x = 0) (h2 : hasJ O x.id = false) (h3 : takenJ O x = false) (h4 : O.length < 200) : postJ O x = 0 := by
  have : decide (200 ≤ (O.length : Int)) = false := by simp; omega
  unfold postJ
  rw [h1, h2, h3, this]
  rfl

theorem ofFrom_all : ∀ (l d : List Jn), (∀ n (h : n < l.length), postJ (d ++ l.take n) l[n] = 0) → ofFrom d l = true
  | [], _, _ => rfl
  | x :: r, d, h => by
    have h0 := h 0 (by simp)
    simp only [List.take_zero, List.append_nil, List.getElem_cons_zero] at h0
    unfold ofFrom
    rw [h0, ofFrom_all r (d ++ [x]) (fun n hn => by
      have := h (n + 1) (by simpa using hn)
      simpa using this)]
    rfl
theorem ValJ.of {l : List Jn} (h : ValJ l) : ofB l = true := by
  unfold ofB
  refine ofFrom_all l [] (fun n hn => ?_)
  rw [List.nil_append]
  refine post_mk (h.ok _ (List.getElem_mem hn)) ?_ (taken_sub (h.free _ (List.getElem_mem hn)) (fun z hz => List.mem_of_mem_take hz)) (by rw [List.length_take]; have := h.len; omega)
  cases hh : hasJ (l.take n) l[n].id with
  | false => rfl
  | true =>
    obtain ⟨x, hx, he⟩ := hasJ_iff.1 hh
    have := inc_new h.incJ hn x hx
    omega

theorem putS_done (j : Jn) : ∀ (l o : List Jn), (∀ y ∈ l, y.id ≠ j.id) → l.foldl (putStep j) (o, true) = (o ++ l, true)
  | [], o, _ => by simp
  | y :: r, o, h => by
    have hy : (y.id != j.id) = true := by simpa using h y (List.mem_cons_self ..)
    rw [List.foldl_cons]
    have : putStep j (o, true) y = (o ++ [y], true) := by simp [putStep, hy]
    rw [this, putS_done j r (o ++ [y]) (fun z hz => h z (List.mem_cons_of_mem _ hz))]
    simp
theorem putS_ahead (j : Jn) : ∀ (l o : List Jn), (∀ y ∈ l, y.id < j.id) → l.foldl (putStep j) (o, false) = (o ++ l, false)
  | [], o, _ => by simp
  | y :: r, o, h => by
    have h1 := h y (List.mem_cons_self ..)
    have hy : (y.id != j.id) = true := by simp; omega
    rw [List.foldl_cons]
    have : putStep j (o, false) y = (o ++ [y], false) := by
      have hd : decide (j.id ≤ y.id) = false := by simp; omega
      simp only [putStep, hd, Bool.not_false, Bool.and_false, Bool.false_eq_true, if_false, hy, if_true]
    rw [this, putS_ahead j r (o ++ [y]) (fun z hz => h z (List.mem_cons_of_mem _ hz))]
    simp
/-- where Put puts it -/
theorem putJ_split (j : Jn) (a b : List Jn) (ha : ∀ y ∈ a, y.id < j.id) (hb : ∀ y ∈ b, j.id < y.id) : putJ (a ++ b) j = a ++ j :: b := by
  unfold putJ putS
  rw [List.foldl_append, putS_ahead j a [] ha, List.nil_append]
  cases b with
  | nil => simp
  | cons y r =>
    have h1 := hb y (List.mem_cons_self ..)
    have hy : (y.id != j.id) = true := by simp; omega
    have hd : decide (j.id ≤ y.id) = true := by simp; omega
    have : putStep j (a, false) y = (a ++ [j] ++ [y], true) := by simp only [putStep, hd, Bool.not_false, Bool.and_true, if_true, hy]
    rw [List.foldl_cons, this, putS_done j r _ (fun z hz => by have := hb z (List.mem_cons_of_mem _ hz); omega)]
    simp
theorem split_at {l : List Jn} (h : l.Pairwise (fun x y => x.id < y.id)) (id : Int) : ∃ a b, l = a ++ b ∧ (∀ y ∈ a, y.id < id) ∧ (∀ y ∈ b, id ≤ y.id) := by
  induction l with
  | nil => exact ⟨[], [], rfl, by simp, by simp⟩
  | cons x r ih =>
    rw [List.pairwise_cons] at h
    by_cases hx : x.id < id
    · obtain ⟨a, b, rfl, h1, h2⟩ := ih h.2
      exact ⟨x :: a, b, rfl, fun y hy => by rcases List.mem_cons.1 hy with rfl | hy; exact hx; exact h1 y hy, h2⟩
    · exact ⟨[], x :: r, rfl, by simp, fun y hy => by
        rcases List.mem_cons.1 hy with rfl | hy
        · omega
        · have := h.1 y hy; omega⟩

theorem ValJ.put {O : List Jn} (h : ValJ O) {x : Jn} (hp : postJ O x = 0) : ValJ (putJ O x) ∧ (∀ y, y ∈ putJ O x ↔ y = x ∨ y ∈ O) := by
  obtain ⟨hc, hn, ht, hl⟩ := post_zero hp
  obtain ⟨a, b, hO, ha, hb⟩ := split_at h.inc x.id
  have hne : ∀ y ∈ O, y.id ≠ x.id := fun y hy e => by rw [hasJ_iff.2 ⟨y, hy, e⟩] at hn; cases hn
  have hb' : ∀ y ∈ b, x.id < y.id := fun y hy => by
    have := hb y hy
    have := hne y (by rw [hO]; exact List.mem_append_right _ hy)
    omega
  have hput : putJ O x = a ++ x :: b := by rw [hO]; exact putJ_split x a b ha hb'
  have hmem : ∀ y, y ∈ putJ O x ↔ y = x ∨ y ∈ O := by
    intro y
    rw [hput, hO]
    simp only [List.mem_append, List.mem_cons]
    constructor
    · rintro (h | rfl | h)
      · exact .inr (.inl h)
      · exact .inl rfl
      · exact .inr (.inr h)
    · rintro (rfl | h | h)
      · exact .inr (.inl rfl)
      · exact .inl h
      · exact .inr (.inr h)
  refine ⟨⟨?_, ?_, ?_, ?_⟩, hmem⟩
  · rw [hput]
    have hp := h.inc
    rw [hO, List.pairwise_append] at hp
    rw [List.pairwise_append, List.pairwise_cons]
    refine ⟨hp.1, ⟨hb', hp.2.1⟩, fun y hy z hz => ?_⟩
    rcases List.mem_cons.1 hz with rfl | hz
    · exact ha y hy
    · exact hp.2.2 y hy z hz
  · intro y hy
    rcases (hmem y).1 hy with rfl | hy
    · exact hc
    · exact h.ok y hy
  · intro y hy
    cases hh : takenJ (putJ O x) y with
    | false => rfl
    | true =>
      obtain ⟨h1, h2, z, hz, hcl⟩ := taken_iff.1 hh
      obtain ⟨c1, c2, c3, c4⟩ := clash_iff.1 hcl
      rcases (hmem y).1 hy with rfl | hyO
      · rcases (hmem z).1 hz with rfl | hz
        · exact absurd rfl c1
        · rw [taken_iff.2 ⟨h1, h2, z, hz, hcl⟩] at ht
          cases ht
      · rcases (hmem z).1 hz with rfl | hz
        · have : takenJ O z = true := taken_iff.2 ⟨by rw [c3]; exact h1, c2, y, hyO, clash_iff.2 ⟨fun e => c1 e.symm, h2, c3.symm, c4.symm⟩⟩
          rw [this] at ht
          cases ht
        · have := h.free y hyO
          rw [taken_iff.2 ⟨h1, h2, z, hz, hcl⟩] at this
          cases this
  · rw [hput]
    have := congrArg List.length hO
    simp only [List.length_append, List.length_cons] at this ⊢
    omega

theorem ValJ.fit {m : Nat} : ∀ (l : List Jn) {O : List Jn}, ValJ O → ValJ (l.foldl (fitStep m) O)
  | [], _, h => h
  | x :: r, O, h => by
    rw [List.foldl_cons]
    refine ValJ.fit r ?_
    unfold fitStep
    split
    · split
      · rename_i hc
        simp only [Bool.and_eq_true, beq_iff_eq] at hc
        exact (h.put hc.2).1
      · exact h
    · exact h
theorem fit_val (m : Nat) (l : List Jn) : ValJ (fitJ m l) := ValJ.fit l ValJ.nil

theorem linesOf_filter (l : List Jn) (e f t : Int) : linesOf (l.filter (cnt e f t)) e f t = linesOf l e f t := by
  unfold linesOf
  rw [List.filter_filter]
  simp
theorem balT_filter (l : List Jn) (e f t : Int) : balT (l.filter (cnt e f t)) e f t = balT l e f t := by
  unfold balT accR
  rw [linesOf_filter]
theorem parT_filter (l : List Jn) (e f t : Int) : parT (l.filter (cnt e f t)) e f t = parT l e f t := by
  unfold parT parR
  rw [linesOf_filter, balT_filter]
end Go.Proofs.YtgggpaacagbmcaaGreat


/- The first call of law 10 is as the document fixes it. -/
set_option linter.unusedVariables false
set_option linter.unusedSimpArgs false
namespace Go.Proofs.YtgggpaacagbmcaaGreat
open Go.RowKit Go.Maps

theorem sl_lines2 {w : World} {F : Nat → Prop} {b : Nat} (x y : Ln) (hb : w.heap[b]? = some (.cells #[.int .i64 x.acc, .int .i64 x.amt, .int .i64 x.par, .int .i64 y.acc, .int .i64 y.amt, .int .i64 y.par] 74 (0, 0))) (hF : F b)
    (hx : I64 x.acc ∧ I64 x.amt ∧ I64 x.par) (hy : I64 y.acc ∧ I64 y.amt ∧ I64 y.par) : Sl tLn w F (some ⟨b, 0, none⟩) [x, y] := by
  have hlt : b < w.heap.size := (Array.getElem?_eq_some_iff.1 hb).1
  have hcell := fun o => cell_of_row w b o _ 74 (0, 0) hb
  intro i u hi
  match i, hi with
  | 0, hi =>
    simp at hi; subst hi
    refine ⟨_, [.int .i64 x.acc, .int .i64 x.amt, .int .i64 x.par], rfl, hF, hlt, fun j v hv => ?_, ln_mk x hx.1 hx.2.1 hx.2.2⟩
    match j, hv with
    | 0, hv => simp at hv; subst hv; exact hcell 0
    | 1, hv => simp at hv; subst hv; exact hcell 1
    | 2, hv => simp at hv; subst hv; exact hcell 2
  | 1, hi =>
    simp at hi; subst hi
    refine ⟨_, [.int .i64 y.acc, .int .i64 y.amt, .int .i64 y.par], rfl, hF, hlt, fun j v hv => ?_, ln_mk y hy.1 hy.2.1 hy.2.2⟩
    match j, hv with
    | 0, hv => simp at hv; subst hv; exact hcell 3
    | 1, hv => simp at hv; subst hv; exact hcell 4
    | 2, hv => simp at hv; subst hv; exact hcell 5

def aliveJ : Jn := ⟨1, 1, 3, ⟨#[]⟩, [⟨100, 5, 0⟩, ⟨200, -5, 0⟩], false⟩
theorem alive_chk : chk aliveJ = 0 := by decide +kernel
theorem alive_val : ValJ [aliveJ] := ⟨by simp, by intro x hx; simp at hx; subst hx; exact alive_chk, by
  intro x hx
  simp at hx
  subst hx
  simp [takenJ, aliveJ], by simp⟩
theorem srt_id {l : List Int} (h : l.Pairwise (fun a b => decide (a ≤ b) = true)) : srt l = l := List.mergeSort_of_pairwise h
theorem alive_acc : accS [] (linesOf [aliveJ] 1 0 5) = [(100, 5), (200, -5)] := by decide +kernel
theorem alive_bal : balT [aliveJ] 1 0 5 = ([(100, 5), (200, -5)], 0) := by
  have h1 : accR [aliveJ] 1 0 5 = [(100, 5), (200, -5)] := by
    unfold accR tellS
    rw [alive_acc]
    have : srt ([((100 : Int), (5 : Int)), (200, -5)].map (·.1)) = [100, 200] := srt_id (l := [100, 200]) (by simp)
    rw [this]
    decide +kernel
  unfold balT
  rw [h1]
  decide +kernel

theorem alive_sl (W : World) (c0 : W.heap.size = W.heap.size) : True := trivial
end Go.Proofs.YtgggpaacagbmcaaGreat


/- trial.Pick: of balances those of kinds. -/
set_option linter.unusedVariables false
set_option linter.unusedSimpArgs false
namespace Go.Proofs.YtgggpaacagbmcaaGreat
open Go.RowKit Go.Maps Go.Deep

theorem filter_yes {α : Type} (p : α → Bool) {l : List α} {n : Nat} (hn : n < l.length) (h : p l[n] = true) : (l.take (n + 1)).filter p = (l.take n).filter p ++ [l[n]] := by
  rw [List.take_succ_eq_append_getElem hn, List.filter_append]
  simp [h]
theorem filter_no {α : Type} (p : α → Bool) {l : List α} {n : Nat} (hn : n < l.length) (h : p l[n] = false) : (l.take (n + 1)).filter p = (l.take n).filter p := by
  rw [List.take_succ_eq_append_getElem hn, List.filter_append]
  simp [h]

set_option maxHeartbeats 8000000 in
set_option maxRecDepth 100000 in
theorem pick_any {w : World} {g : Nat} {mb : Option Nat} {r : List Ac} (h : ChartAt w g mb r) (l : List (Int × Int)) (a : Option Addr) (cap : Nat) (ks : List Int) (ka : Option Addr) (kc : Nat) {F G : Nat → Prop} (hs : Sl tBal w F a l) (hl : l.length ≤ 1000) (hks : Sl tInt w G ka ks) (hkl : ks.length ≤ maxLen) :
    Calls Tryz.prog 99 #[.pointer (some ⟨g, 0, none⟩), .slice a l.length cap, .slice ka ks.length kc] w fun e w' => ∃ v, e = .returned v ∧ OwnL tBal w' w.heap.size v (l.filter (pickB r ks)) ∧ Below w.heap.size w w' := by
  have HH := Lib.hid h
  have HS := Lib.hid hs
  have HKS := Lib.hid hks
  clear h hs hks
  obtain ⟨i0, hi, hz0, hz1, hz2⟩ := info_parts infoBal
  go_enter Tryz.func99, Tryz.ntmps99
  go_wp2_with fail
  go_loopw [7, 14] (fun vo vi wr => ∃ (n : Nat) (vx : Value), vx = vo ∧ n ≤ l.length ∧ vi = .int .i64 n ∧ OwnL tBal wr w.heap.size vx ((l.take n).filter (pickB r ks)) ∧ Below w.heap.size w wr) (fun _ vi _ => l.length - (Go.RowKit.intOf vi).toNat)
  case atStart => exact ⟨0, _, rfl, Nat.zero_le _, rfl, OwnL.nil _ _, Below.refl _ _⟩
  case round =>
    obtain ⟨n, vo, rfl, hn, rfl, ho, hb⟩ := hrel
    have HO := Lib.hid ho
    have HB := Lib.hid hb
    clear ho hb
    by_cases hlt : n < l.length
    · obtain ⟨ad, rfl, _, hadl, hc0, hc1, g0, g1⟩ := bal_at (Sl.keep (fun k hk _ => HB.out.block k hk) HS.out) n hlt
      have HY := Lib.hid (fun h => filter_yes (pickB r ks) hlt h)
      have HN := Lib.hid (fun h => filter_no (pickB r ks) hlt h)
      have hnum : ((l.take n).filter (pickB r ks)).length ≤ 1000 := by
        have := List.length_filter_le (pickB r ks) (l.take n)
        rw [List.length_take] at this
        omega
      generalize l[n] = x at *
      obtain ⟨k, v⟩ := x
      simp only at hc0 hc1 g0 g1
      have G0 := Lib.hid g0
      have G1 := Lib.hid g1
      have HBA : Hid (Below wr.heap.size wr (wr.alloc (.cells #[.int .i64 k, .int .i64 v] 62))) := Lib.hid ((Below.refl _ _).alloc (Nat.le_refl _) _)
      have HZA := Lib.hid (blk_new wr (.cells #[.int .i64 k, .int .i64 v] 62))
      have HC := Lib.hid (chget_any ((HH.out.below HB.out).below HBA.out) k g0)
      have hpk : pickB r ks (k, v) = match findA r k with | some a => ks.contains a.kind | none => false := rfl
      clear g0 g1
      cases hfa : findA r k with
      | none =>
        have hd : acD r k = ac0 := by unfold acD; rw [hfa]; rfl
        rw [hfa] at hpk
        have hcg := HC.out
        rw [hfa, hd] at hcg
        have HCG := Lib.hid hcg
        have HPK : Hid (pickB r ks (k, v) = false) := Lib.hid hpk
        clear hcg HC hpk hd hfa
        go_wp2_with fail
        refine HCG.out.mono ?_
        rintro en w2 ⟨rfl, hb⟩
        have HB2 := Lib.hid (belows_then (belows_then HB.out HB.out.size HBA.out) (Nat.le_trans HB.out.size HBA.out.size) hb)
        have HO2 := Lib.hid ((HO.out.below HBA.out).below hb)
        clear hb
        go_wp2_with fail
        go_roundw
        case rel => exact ⟨n + 1, _, rfl, by omega, by go_num, by rw [HN.out HPK.out]; exact HO2.out.alloc _, HB2.out.alloc HB2.out.size _⟩
        case measure => simp [Go.RowKit.intOf]; omega
      | some ac =>
        have hd : acD r k = ac := by unfold acD; rw [hfa]; rfl
        rw [hfa] at hpk
        have hcg := HC.out
        rw [hfa, hd] at hcg
        have HCG := Lib.hid hcg
        have HPK : Hid (pickB r ks (k, v) = ks.contains ac.kind) := Lib.hid hpk
        clear hcg HC hpk hd hfa
        obtain ⟨c1, c2, c3⟩ := ac
        go_wp2_with fail
        refine HCG.out.mono ?_
        rintro en w2 ⟨rfl, hb⟩
        have HB2 := Lib.hid (belows_then (belows_then HB.out HB.out.size HBA.out) (Nat.le_trans HB.out.size HBA.out.size) hb)
        have HO2 := Lib.hid ((HO.out.below HBA.out).below hb)
        have HZ2 := Lib.hid (blk_below HZA.out hb)
        have HK2 := Lib.hid (Sl.keep (fun k hk _ => (HB2.out.alloc HB2.out.size (.cells #[.int .i64 c1, .int .i64 c2, .bool c3] 79)).block k hk) HKS.out)
        have hzc := blk_cells HZ2.out
        have hzl := blk_lt HZ2.out
        simp only [Option.isSome_some]
        clear hb hc0 hc1 hadl
        cases hc : ks.contains c2
        · have HP2 := Lib.hid (HPK.out.trans hc)
          have HCC := Lib.hid (contains_any ks ka kc c2 _ HK2.out hkl hc)
          clear hc
          go_wp2_with fail
          refine HCC.out.mono ?_
          rintro en w3 ⟨rfl, rfl⟩
          go_wp2_with fail
          go_roundw
          case rel => exact ⟨n + 1, _, rfl, by omega, by go_num, by rw [HN.out HP2.out]; exact HO2.out.alloc _, HB2.out.alloc HB2.out.size _⟩
          case measure => simp [Go.RowKit.intOf]; omega
        · have HP2 := Lib.hid (HPK.out.trans hc)
          have HCC := Lib.hid (contains_any ks ka kc c2 _ HK2.out hkl hc)
          clear hc
          have HOA := Lib.hid ((HO2.out.alloc (.cells #[.int .i64 c1, .int .i64 c2, .bool c3] 79)).alloc (.cells #[.int .i64 k, .int .i64 v] 62))
          have HBB := Lib.hid ((HB2.out.alloc HB2.out.size (.cells #[.int .i64 c1, .int .i64 c2, .bool c3] 79)).alloc (by have := HB2.out.size; simp; omega) (.cells #[.int .i64 k, .int .i64 v] 62))
          have HSL : Hid (Sl tBal ((w2.alloc (.cells #[.int .i64 c1, .int .i64 c2, .bool c3] 79)).alloc (.cells #[.int .i64 k, .int .i64 v] 62)) (fun kk => some kk ≠ vo.ownBlock ∧ kk < ((w2.alloc (.cells #[.int .i64 c1, .int .i64 c2, .bool c3] 79)).alloc (.cells #[.int .i64 k, .int .i64 v] 62)).heap.size) (some ⟨w2.heap.size + 1, 0, none⟩) [(k, v)]) :=
            Lib.hid (sl_one2 tBal (x := (k, v)) rfl (by have := blk_new (w2.alloc (.cells #[.int .i64 c1, .int .i64 c2, .bool c3] 79)) (.cells #[.int .i64 k, .int .i64 v] 62); simpa using this) ⟨fun e => by have := (HO2.out.lt _ e.symm).2; omega, by simp⟩ (bal_mk (k, v) G0.out G1.out))
          have h63 : ((l.take n).filter (pickB r ks)).length + [((k, v) : Int × Int)].length ≤ maxLen := by simp only [List.length_cons, List.length_nil]; unfold maxLen; omega
          have hby : (((l.take n).filter (pickB r ks)).length + [((k, v) : Int × Int)].length) * 16 ≤ 140737488355328 := by simp only [List.length_cons, List.length_nil]; omega
          go_wp2_with fail
          refine HCC.out.mono ?_
          rintro en w3 ⟨rfl, rfl⟩
          go_wp2_with (at_builtin; refine wp_app (T := tBal) rfl _ _ 49 rfl i0 (.agg #[.int .i64 0, .int .i64 0]) 16 Tryz.underlying49 hi hz0 hz1 hz2 rfl (by decide) bal_one w.heap.size vo ((l.take n).filter (pickB r ks)) rfl HOA.out ⟨w2.heap.size + 1, 0, none⟩ 1 [(k, v)] rfl HSL.out h63 hby HBB.out.size ?_; intro v3 w3 hown hg hnil hat; have HO3 := Lib.hid hown; have HB3 := Lib.hid (Below.grown HBB.out hg HBB.out.size (fun k e => (HOA.out.lt k e).1)); clear hown hg hnil hat)
          go_roundw
          case rel => exact ⟨n + 1, _, rfl, by omega, by go_num, by rw [HY.out HP2.out]; exact HO3.out, HB3.out⟩
          case measure => simp [Go.RowKit.intOf]; omega
    · have HL : Hid (l.take n = l) := Lib.hid (take_all hn hlt)
      have hown := HO.out
      rw [HL.out] at hown
      have HW := Lib.hid hown
      clear hown
      go_wp2_with fail
      go_ret
      exact ⟨_, rfl, HW.out, HB.out⟩

set_option maxHeartbeats 4000000 in
set_option maxRecDepth 100000 in
theorem pick_nil (w : World) (l : List (Int × Int)) (a : Option Addr) (cap : Nat) (ks : List Int) (ka : Option Addr) (kc : Nat) {F : Nat → Prop} (hs : Sl tBal w F a l) (hl : l.length ≤ 1000) :
    Calls Tryz.prog 99 #[.pointer none, .slice a l.length cap, .slice ka ks.length kc] w fun e w' => e = .returned (.slice none 0 0) ∧ Below w.heap.size w w' := by
  have HS := Lib.hid hs
  clear hs
  go_enter Tryz.func99, Tryz.ntmps99
  go_wp2_with fail
  go_loopw [7, 14] (fun vo vi wr => ∃ (n : Nat), vo = .slice none 0 0 ∧ n ≤ l.length ∧ vi = .int .i64 n ∧ Below w.heap.size w wr) (fun _ vi _ => l.length - (Go.RowKit.intOf vi).toNat)
  case atStart => exact ⟨0, rfl, Nat.zero_le _, rfl, Below.refl _ _⟩
  case round =>
    obtain ⟨n, rfl, hn, rfl, hb⟩ := hrel
    have HB := Lib.hid hb
    clear hb
    by_cases hlt : n < l.length
    · obtain ⟨ad, rfl, _, hadl, hc0, hc1, g0, g1⟩ := bal_at (Sl.keep (fun k hk _ => HB.out.block k hk) HS.out) n hlt
      generalize l[n] = x at *
      obtain ⟨k, v⟩ := x
      simp only at hc0 hc1 g0 g1
      have HBA : Hid (Below w.heap.size w (wr.alloc (.cells #[.int .i64 k, .int .i64 v] 62))) := Lib.hid (HB.out.alloc HB.out.size _)
      clear g0 g1
      go_wp2_with fail
      refine (chget_nil _ k).mono ?_
      rintro en w2 ⟨rfl, hb⟩
      have HB2 := Lib.hid (belows_then HBA.out HBA.out.size hb)
      clear hb
      go_wp2_with fail
      go_roundw
      case rel => exact ⟨n + 1, rfl, by omega, by go_num, HB2.out.alloc HB2.out.size _⟩
      case measure => simp [Go.RowKit.intOf]; omega
    · go_wp2_with fail
      go_ret
      exact ⟨rfl, HB.out⟩
end Go.Proofs.YtgggpaacagbmcaaGreat


/- income: balances with their signs turned, sums, what is left. -/
set_option linter.unusedVariables false
set_option linter.unusedSimpArgs false
namespace Go.Proofs.YtgggpaacagbmcaaGreat
open Go.RowKit Go.Maps Go.Deep

def negB (x : Int × Int) : Int × Int := (x.1, -x.2)
theorem i64_ofB {n : Int} (h1 : -9223372036854775808 ≤ n) (h2 : n ≤ 9223372036854775807) : I64 n := by
  unfold I64 Lit.wf
  simp [IntKind.min, IntKind.max, IntKind.bits, IntKind.signed]
  omega
theorem wrap_is {n : Int} (h1 : -9223372036854775808 ≤ n) (h2 : n ≤ 9223372036854775807) : IntKind.i64.wrap n = n := by
  simp only [IntKind.wrap, IntKind.bits, IntKind.signed, Int.reducePow]
  simp
  split <;> omega

theorem madd2 (x y : Int) (b : Nat) (W : World) (hb : W.heap[b]? = some (.cells #[.int .i64 x, .int .i64 y] 3 (0, 0))) (wx : I64 x) (wy : I64 y) {r : Int × Int} (hr : addM [x, y] = r) :
    Calls Tryz.prog 97 #[.slice (some ⟨b, 0, none⟩) 2 2] W fun e w' => e = .returned (.tuple #[.int .i64 r.1, .int .i64 r.2]) ∧ Below W.heap.size W w' := by
  have := madd_any [x, y] (some ⟨b, 0, none⟩) 2 W (sl_two x y b W hb wx wy) (by simp)
  rw [hr] at this
  exact this

end Go.Proofs.YtgggpaacagbmcaaGreat
