/- variorumbook: SameBalances, SamePairs. -/
import Derived.Test.YtfnmlpnncjhnmaaGreatX16TrialTells
import Derived.Test.YtfnmlpnncjhnmaaGreatX12TrialTells
import Derived.Laws.AppendOwnNone
import Derived.Test.YtfnmlpnncjhnmaaGreatX13TrialTells
import Derived.Test.YtfnmlpnncjhnmaaGreatX17TrialTells
set_option linter.unusedVariables false
set_option linter.unusedSimpArgs false
namespace Go.Proofs.YtfnmlpnncjhnmaaGreat
open Go.RowKit Go.Maps

theorem take_eq_succ {α : Type} {a b : List α} {n : Nat} (h : a.take n = b.take n) (h1 : n < a.length) (h2 : n < b.length) (he : a[n] = b[n]) : a.take (n + 1) = b.take (n + 1) := by
  rw [List.take_succ_eq_append_getElem h1, List.take_succ_eq_append_getElem h2, h, he]
theorem ne_at {α : Type} {a b : List α} {n : Nat} (h1 : n < a.length) (h2 : n < b.length) (he : a[n] ≠ b[n]) : a ≠ b := by
  rintro rfl
  exact he rfl

set_option maxHeartbeats 4000000 in
set_option maxRecDepth 100000 in
theorem sameBal_any (l m : List (Int × Int)) (a b : Option Addr) (ca cb : Nat) (w : World) {F G : Nat → Prop} (hs : Sl tBal w F a l) (ht : Sl tBal w G b m) (hl : l.length ≤ maxLen) (hm : m.length ≤ maxLen) {r : Bool} (hr : decide (l = m) = r) :
    Calls Tryz.prog 15 #[.slice a l.length ca, .slice b m.length cb] w fun e w' => e = .returned (.bool r) ∧ Below w.heap.size w w' := by
  have HS := Lib.hid hs
  have HT := Lib.hid ht
  have HR := Lib.hid hr
  have hl' : l.length ≤ 9223372036854775807 := by unfold maxLen at hl; omega
  have hm' : m.length ≤ 9223372036854775807 := by unfold maxLen at hm; omega
  clear hs ht hl hm hr
  by_cases hlen : l.length = m.length
  · have hle : l.length ≤ m.length := by omega
    have hge : m.length ≤ l.length := by omega
    have hq : ((l.length : Int) != (m.length : Int)) = false := by simp [hlen]
    have HLEN := Lib.hid hlen
    clear hlen
    go_enter Tryz.func15, Tryz.ntmps15
    go_wp2_with fail
    go_loopw [5] (fun vi wr => ∃ n : Nat, n ≤ l.length ∧ vi = .int .i64 n ∧ Hid (l.take n = m.take n) ∧ Below w.heap.size w wr) (fun vi _ => l.length - (intOf vi).toNat)
    case atStart => exact ⟨0, Nat.zero_le _, rfl, Lib.hid rfl, Below.refl _ _⟩
    case round =>
      obtain ⟨n, hn, rfl, htk, hb⟩ := hrel
      have HB := Lib.hid hb
      clear hb
      by_cases hlt : n < l.length
      · have hlt2 : n < m.length := by omega
        obtain ⟨ad, rfl, _, hadl, hc0, hc1, _, _⟩ := bal_at (Sl.keep (fun k hk _ => HB.out.block k hk) HS.out) n hlt
        obtain ⟨bd, rfl, _, hbdl, hd0, hd1, _, _⟩ := bal_at (Sl.keep (fun k hk _ => HB.out.block k hk) HT.out) n hlt2
        have HEQ : Hid (l[n] = m[n] → l.take (n + 1) = m.take (n + 1)) := Lib.hid (fun h => take_eq_succ htk.out hlt hlt2 h)
        have HNE : Hid (l[n] ≠ m[n] → r = false) := Lib.hid (fun h => by rw [← HR.out]; simpa using ne_at hlt hlt2 h)
        generalize l[n] = x at *
        generalize m[n] = y at *
        obtain ⟨x1, x2⟩ := x
        obtain ⟨y1, y2⟩ := y
        simp only at hc0 hc1 hd0 hd1
        skip
        by_cases he1 : x1 = y1
        · by_cases he2 : x2 = y2
          · subst he1
            subst he2
            have HN := Lib.hid (HEQ.out rfl)
            have h1 : (x1 == x1) = true := by simp
            have h2 : (x2 == x2) = true := by simp
            go_wp2_with fail
            go_quiet (fail)
            go_wp2_with fail
            go_roundw
            case rel => exact ⟨n + 1, by omega, by go_num, HN, below_drewN HB.out _⟩
            case measure => simp [intOf]; omega
          · have HF := Lib.hid (HNE.out (by simp [he2]))
            have h1 : (x1 == y1) = true := by simpa using he1
            have h2 : (x2 == y2) = false := by simpa using he2
            clear he1 he2
            go_wp2_with fail
            go_quiet (fail)
            go_wp2_with fail
            go_ret
            rw [HF.out]
            exact ⟨rfl, below_drewN HB.out _⟩
        · have HF := Lib.hid (HNE.out (by simp [he1]))
          have h1 : (x1 == y1) = false := by simpa using he1
          clear he1
          go_wp2_with fail
          go_quiet (fail)
          go_wp2_with fail
          go_ret
          rw [HF.out]
          exact ⟨rfl, below_drewN HB.out _⟩
      · have hnn : n = l.length := by omega
        have HF : Hid (r = true) := Lib.hid (by
          rw [← HR.out]
          have := htk.out
          rw [hnn, List.take_length, HLEN.out, List.take_length] at this
          simpa using this)
        clear hnn
        go_wp2_with fail
        go_ret
        rw [HF.out]
        exact ⟨rfl, HB.out⟩
  · have hq : ((l.length : Int) != (m.length : Int)) = true := by simp; omega
    have HF : Hid (r = false) := Lib.hid (by rw [← HR.out]; simp; intro h; exact hlen (by rw [h]))
    clear hlen
    go_enter Tryz.func15, Tryz.ntmps15
    go_wp2_with fail
    go_ret
    rw [HF.out]
    exact ⟨rfl, Below.refl _ _⟩
set_option maxHeartbeats 4000000 in
set_option maxRecDepth 100000 in
theorem samePair_any (l m : List (Int × Int)) (a b : Option Addr) (ca cb : Nat) (w : World) {F G : Nat → Prop} (hs : Sl tPair w F a l) (ht : Sl tPair w G b m) (hl : l.length ≤ maxLen) (hm : m.length ≤ maxLen) {r : Bool} (hr : decide (l = m) = r) :
    Calls Tryz.prog 16 #[.slice a l.length ca, .slice b m.length cb] w fun e w' => e = .returned (.bool r) ∧ Below w.heap.size w w' := by
  have HS := Lib.hid hs
  have HT := Lib.hid ht
  have HR := Lib.hid hr
  have hl' : l.length ≤ 9223372036854775807 := by unfold maxLen at hl; omega
  have hm' : m.length ≤ 9223372036854775807 := by unfold maxLen at hm; omega
  clear hs ht hl hm hr
  by_cases hlen : l.length = m.length
  · have hle : l.length ≤ m.length := by omega
    have hge : m.length ≤ l.length := by omega
    have hq : ((l.length : Int) != (m.length : Int)) = false := by simp [hlen]
    have HLEN := Lib.hid hlen
    clear hlen
    go_enter Tryz.func16, Tryz.ntmps16
    go_wp2_with fail
    go_loopw [5] (fun vi wr => ∃ n : Nat, n ≤ l.length ∧ vi = .int .i64 n ∧ Hid (l.take n = m.take n) ∧ Below w.heap.size w wr) (fun vi _ => l.length - (intOf vi).toNat)
    case atStart => exact ⟨0, Nat.zero_le _, rfl, Lib.hid rfl, Below.refl _ _⟩
    case round =>
      obtain ⟨n, hn, rfl, htk, hb⟩ := hrel
      have HB := Lib.hid hb
      clear hb
      by_cases hlt : n < l.length
      · have hlt2 : n < m.length := by omega
        obtain ⟨ad, rfl, _, hadl, hc0, hc1, _, _⟩ := pair_at (Sl.keep (fun k hk _ => HB.out.block k hk) HS.out) n hlt
        obtain ⟨bd, rfl, _, hbdl, hd0, hd1, _, _⟩ := pair_at (Sl.keep (fun k hk _ => HB.out.block k hk) HT.out) n hlt2
        have HEQ : Hid (l[n] = m[n] → l.take (n + 1) = m.take (n + 1)) := Lib.hid (fun h => take_eq_succ htk.out hlt hlt2 h)
        have HNE : Hid (l[n] ≠ m[n] → r = false) := Lib.hid (fun h => by rw [← HR.out]; simpa using ne_at hlt hlt2 h)
        generalize l[n] = x at *
        generalize m[n] = y at *
        obtain ⟨x1, x2⟩ := x
        obtain ⟨y1, y2⟩ := y
        simp only at hc0 hc1 hd0 hd1
        have heq := fun W => eq_pair x1 x2 y1 y2 W
        by_cases he1 : x1 = y1
        · by_cases he2 : x2 = y2
          · subst he1
            subst he2
            have HN := Lib.hid (HEQ.out rfl)
            have h1 : (x1 == x1) = true := by simp
            have h2 : (x2 == x2) = true := by simp
            go_wp2_with fail
            go_quiet (fail)
            go_wp2_with fail
            go_roundw
            case rel => exact ⟨n + 1, by omega, by go_num, HN, below_drewN HB.out _⟩
            case measure => simp [intOf]; omega
          · have HF := Lib.hid (HNE.out (by simp [he2]))
            have h1 : (x1 == y1) = true := by simpa using he1
            have h2 : (x2 == y2) = false := by simpa using he2
            clear he1 he2
            go_wp2_with fail
            go_quiet (fail)
            go_wp2_with fail
            go_ret
            rw [HF.out]
            exact ⟨rfl, below_drewN HB.out _⟩
        · have HF := Lib.hid (HNE.out (by simp [he1]))
          have h1 : (x1 == y1) = false := by simpa using he1
          clear he1
          go_wp2_with fail
          go_quiet (fail)
          go_wp2_with fail
          go_ret
          rw [HF.out]
          exact ⟨rfl, below_drewN HB.out _⟩
      · have hnn : n = l.length := by omega
        have HF : Hid (r = true) := Lib.hid (by
          rw [← HR.out]
          have := htk.out
          rw [hnn, List.take_length, HLEN.out, List.take_length] at this
          simpa using this)
        clear hnn
        go_wp2_with fail
        go_ret
        rw [HF.out]
        exact ⟨rfl, HB.out⟩
  · have hq : ((l.length : Int) != (m.length : Int)) = true := by simp; omega
    have HF : Hid (r = false) := Lib.hid (by rw [← HR.out]; simp; intro h; exact hlen (by rw [h]))
    clear hlen
    go_enter Tryz.func16, Tryz.ntmps16
    go_wp2_with fail
    go_ret
    rw [HF.out]
    exact ⟨rfl, Below.refl _ _⟩
end Go.Proofs.YtfnmlpnncjhnmaaGreat


/- variorumbook: copies of balances, lent ones, whether they stay. -/
set_option linter.unusedVariables false
set_option linter.unusedSimpArgs false
namespace Go.Proofs.YtfnmlpnncjhnmaaGreat
open Go.RowKit Go.Maps

theorem OwnL.form {P : Program} {e : TypeId} {α : Type} {T : Ty P e α} {w : World} {base : Nat} {v : Value} {xs : List α} (h : OwnL T w base v xs) :
    (v = .slice none 0 0 ∧ xs = []) ∨ ∃ g cap, v = .slice (some ⟨g, 0, none⟩) xs.length cap ∧ xs.length ≤ cap ∧ cap ≤ maxLen := h.ownF.form
theorem form_snoc {P : Program} {e : TypeId} {α : Type} {T : Ty P e α} {w : World} {base : Nat} {v : Value} {xs : List α} {x : α} (h : OwnL T w base v (xs ++ [x])) : ∃ g c, v = .slice (some ⟨g, 0, none⟩) (xs.length + 1) c ∧ xs.length + 1 ≤ c ∧ c ≤ maxLen := by
  rcases h.form with ⟨_, h⟩ | ⟨g, c, h1, h2, h3⟩
  · simp at h
  · rw [List.length_append] at h1 h2
    exact ⟨g, c, h1, h2, h3⟩
theorem Sl.left {P : Program} {e : TypeId} {α : Type} {T : Ty P e α} {w : World} {F : Nat → Prop} {a : Option Addr} {xs ys : List α} (h : Sl T w F a (xs ++ ys)) : Sl T w F a xs := by
  intro i x hx
  exact h i x (by rw [List.getElem?_append_left (List.getElem?_eq_some_iff.1 hx).1]; exact hx)

set_option maxHeartbeats 2000000 in
set_option maxRecDepth 100000 in
theorem cpBal_any {w : World} {base : Nat} {v : Value} {l : List (Int × Int)} (h : OwnL tBal w base v l) (hl : l.length ≤ 100000) :
    Calls Tryz.prog 47 #[v] w fun e w' => ∃ v', e = .returned v' ∧ OwnL tBal w' w.heap.size v' l ∧ Below w.heap.size w w' := by
  obtain ⟨i0, hi, hz0, hz1, hz2⟩ := info_parts infoBal
  have hf := h.form
  obtain ⟨a, cap, rfl, _, _, hs⟩ := h.slice
  have HS : Hid (Sl tBal w (fun k => some k ≠ (Value.slice none 0 0).ownBlock ∧ k < w.heap.size) a l) := Lib.hid (fun i x hx => by
    obtain ⟨ad, ces, ha, _, hlt, hc, hr⟩ := hs i x hx
    exact ⟨ad, ces, ha, ⟨by simp [Value.ownBlock], hlt⟩, hlt, hc, bal_free _ _ _ _ _ hr⟩)
  have h63 : ([] : List (Int × Int)).length + l.length ≤ maxLen := by simp only [List.length_nil]; unfold maxLen; omega
  have hby : (([] : List (Int × Int)).length + l.length) * 16 ≤ 140737488355328 := by simp only [List.length_nil]; omega
  clear h hs
  rcases hf with ⟨hv, rfl⟩ | ⟨g, c, hv, _⟩
  · injection hv with h1 _ h3
    subst h1
    subst h3
    have HN := Lib.hid (World.ownsRow_nil w w.heap.size 94 2)
    go_enter Tryz.func47, Tryz.ntmps47
    go_wp2_with (at_builtin; refine wpList_append_own_none rfl _ _ 32 rfl w.heap.size 94 i0 2 Tryz.underlying32 hi (.slice none 0 0) 0 [] rfl HN.out rfl ?_)
    go_ret
    exact ⟨_, rfl, OwnL.nil _ _, Below.refl _ _⟩
  · injection hv with h1 _ h3
    subst h1
    subst h3
    go_enter Tryz.func47, Tryz.ntmps47
    go_wp2_with (at_builtin; refine wp_app (T := tBal) rfl _ _ 32 rfl i0 (.agg #[.int .i64 0, .int .i64 0]) 16 Tryz.underlying32 hi hz0 hz1 hz2 rfl (by decide) bal_one w.heap.size (.slice none 0 0) [] rfl (OwnL.nil _ _) ⟨g, 0, none⟩ cap l rfl HS.out h63 hby (Nat.le_refl _) ?_; intro v' w' hown hg hnil hat; have HB := Lib.hid (Below.grown (Below.refl w.heap.size w) hg (Nat.le_refl _) (fun k e => by simp [Value.ownBlock] at e)); have HO := Lib.hid hown; clear hown hg hnil hat)
    go_ret
    exact ⟨v', rfl, by simpa using HO.out, HB.out⟩

/-- a list with room behind it, in which a mark stands -/
def LentB (w : World) (base : Nat) (v : Value) (l : List (Int × Int)) : Prop := ∃ g cap, v = .slice (some ⟨g, 0, none⟩) l.length cap ∧ l.length + 1 ≤ cap ∧ cap ≤ maxLen ∧ OwnL tBal w base (.slice (some ⟨g, 0, none⟩) (l.length + 1) cap) (l ++ [(77, 0)])
theorem LentB.below {w w' : World} {base : Nat} {v : Value} {l : List (Int × Int)} (h : LentB w base v l) (hb : Below w.heap.size w w') : LentB w' base v l := by
  obtain ⟨g, cap, h1, h2, h3, h4⟩ := h
  exact ⟨g, cap, h1, h2, h3, h4.below hb⟩

theorem sameBal_is (l m : List (Int × Int)) (a b : Option Addr) (ca cb : Nat) (w : World) {F G : Nat → Prop} (hs : Sl tBal w F a l) (ht : Sl tBal w G b m) (hl : l.length ≤ maxLen) (hm : m.length ≤ maxLen) (h : l = m) :
    Calls Tryz.prog 15 #[.slice a l.length ca, .slice b m.length cb] w fun e w' => e = .returned (.bool true) ∧ Below w.heap.size w w' := sameBal_any l m a b ca cb w hs ht hl hm (by simpa using h)

end Go.Proofs.YtfnmlpnncjhnmaaGreat


/- Plain: books that may be, what Fit and Put make of them. -/
set_option linter.unusedVariables false
set_option linter.unusedSimpArgs false
namespace Go.Proofs.YtfnmlpnncjhnmaaGreat
open Go.RowKit Go.Maps

structure ValJ (l : List Jn) : Prop where
  inc : l.Pairwise (fun x y => x.id < y.id)
  ok : ∀ x ∈ l, chk x = 0
  free : ∀ x ∈ l, takenJ l x = false
  len : l.length ≤ 200
theorem incJ_iff {l : List Jn} : IncJ l ↔ l.Pairwise (fun x y => x.id < y.id) := (List.pairwise_iff_getElem (R := fun x y : Jn => x.id < y.id)).symm
theorem ValJ.incJ {l : List Jn} (h : ValJ l) : IncJ l := incJ_iff.2 h.inc
theorem ValJ.ordJ {l : List Jn} (h : ValJ l) : OrdJ l := ⟨h.incJ, fun x hx => ⟨(chk_id (h.ok x hx)).1, (chk_id (h.ok x hx)).2.1⟩⟩
theorem chk_len {j : Jn} (h : chk j = 0) : j.lines.length ≤ 8 := by
  have hf : frontBad j = false := by
    cases hh : frontBad j with
    | false => rfl
    | true => simp [chk, hh] at h
  have := (front_ok hf).2.2.2.2.2.2.2
  omega
theorem ValJ.good {l : List Jn} (h : ValJ l) : GoodJ l := fun x hx => ⟨(chk_id (h.ok x hx)).2.2, chk_len (h.ok x hx)⟩
theorem ValJ.nil : ValJ [] := ⟨List.Pairwise.nil, by simp, by simp, by simp⟩

theorem taken_iff {l : List Jn} {x : Jn} : takenJ l x = true ↔ x.ref.toList.isEmpty = false ∧ x.void = false ∧ ∃ z ∈ l, clash x z = true := by
  unfold takenJ
  simp only [Bool.and_eq_true, Bool.not_eq_true', List.any_eq_true]
theorem taken_sub {l l' : List Jn} {x : Jn} (h : takenJ l x = false) (hs : ∀ z ∈ l', z ∈ l) : takenJ l' x = false := by
  cases h' : takenJ l' x with
  | false => rfl
  | true =>
    obtain ⟨h1, h2, z, hz, hc⟩ := taken_iff.1 h'
    rw [taken_iff.2 ⟨h1, h2, z, hs z hz, hc⟩] at h
    cases h
theorem clash_iff {x z : Jn} : clash x z = true ↔ z.id ≠ x.id ∧ z.void = false ∧ z.ref.toList = x.ref.toList ∧ z.en = x.en := by
  unfold clash
  simp

theorem ValJ.filter {l : List Jn} (h : ValJ l) (p : Jn → Bool) : ValJ (l.filter p) :=
  ⟨h.inc.filter p, fun x hx => h.ok x (List.mem_filter.1 hx).1, fun x hx => taken_sub (h.free x (List.mem_filter.1 hx).1) (fun z hz => (List.mem_filter.1 hz).1), Nat.le_trans (List.length_filter_le _ _) h.len⟩

theorem hasJ_iff {l : List Jn} {id : Int} : hasJ l id = true ↔ ∃ x ∈ l, x.id = id := by
  unfold hasJ
  simp [List.any_eq_true]
theorem post_zero {O : List Jn} {x : Jn} (h : postJ O x = 0) : chk x = 0 ∧ hasJ O x.id = false ∧ takenJ O x = false ∧ O.length < 200 := by
  rcases post_cases O x with ⟨h1, h2⟩ | ⟨h1, ⟨h2, h3⟩ | ⟨h2, ⟨h3, h4⟩ | ⟨h3, ⟨h4, h5⟩ | ⟨h4, h5⟩⟩⟩⟩
  · rw [h] at h2
    rw [← h2] at h1
    cases h1
  · rw [h] at h3; cases h3
  · rw [h] at h4; cases h4
  · rw [h] at h5; cases h5
  · exact ⟨by simpa using h1, h2, h3, by omega⟩
theorem post_mk {O : List Jn} {x : Jn} (h1 : chk x = 0) (h2 : hasJ O x.id = false) (h3 : takenJ O x = false) (h4 : O.length < 200) : postJ O x = 0 := by
  have : decide (200 ≤ (O.length : Int)) = false := by simp; omega
  unfold postJ
  rw [h1, h2, h3, this]
  rfl

theorem ofFrom_all : ∀ (l d : List Jn), (∀ n (h : n < l.length), postJ (d ++ l.take n) l[n] = 0) → ofFrom d l = true
  | [], _, _ => rfl
  | x :: r, d, h => by
    have h0 := h 0 (by simp)
    simp only [List.take_zero, List.append_nil, List.getElem_cons_zero] at h0
    unfold ofFrom
    rw [h0, ofFrom_all r (d ++ [x]) (fun n hn => by
      have := h (n + 1) (by simpa using hn)
      simpa using this)]
    rfl
theorem ValJ.of {l : List Jn} (h : ValJ l) : ofB l = true := by
  unfold ofB
  refine ofFrom_all l [] (fun n hn => ?_)
  rw [List.nil_append]
  refine post_mk (h.ok _ (List.getElem_mem hn)) ?_ (taken_sub (h.free _ (List.getElem_mem hn)) (fun z hz => List.mem_of_mem_take hz)) (by rw [List.length_take]; have := h.len; omega)
  cases hh : hasJ (l.take n) l[n].id with
  | false => rfl
  | true =>
    obtain ⟨x, hx, he⟩ := hasJ_iff.1 hh
    have := inc_new h.incJ hn x hx
    omega

theorem putS_done (j : Jn) : ∀ (l o : List Jn), (∀ y ∈ l, y.id ≠ j.id) → l.foldl (putStep j) (o, true) = (o ++ l, true)
  | [], o, _ => by simp
  | y :: r, o, h => by
    have hy : (y.id != j.id) = true := by simpa using h y (List.mem_cons_self ..)
    rw [List.foldl_cons]
    have : putStep j (o, true) y = (o ++ [y], true) := by simp [putStep, hy]
    rw [this, putS_done j r (o ++ [y]) (fun z hz => h z (List.mem_cons_of_mem _ hz))]
    simp
theorem putS_ahead (j : Jn) : ∀ (l o : List Jn), (∀ y ∈ l, y.id < j.id) → l.foldl (putStep j) (o, false) = (o ++ l, false)
  | [], o, _ => by simp
  | y :: r, o, h => by
    have h1 := h y (List.mem_cons_self ..)
    have hy : (y.id != j.id) = true := by simp; omega
    rw [List.foldl_cons]
    have : putStep j (o, false) y = (o ++ [y], false) := by
      have hd : decide (j.id ≤ y.id) = false := by simp; omega
      simp only [putStep, hd, Bool.not_false, Bool.and_false, Bool.false_eq_true, if_false, hy, if_true]
    rw [this, putS_ahead j r (o ++ [y]) (fun z hz => h z (List.mem_cons_of_mem _ hz))]
    simp
/-- where Put puts it -/
theorem putJ_split (j : Jn) (a b : List Jn) (ha : ∀ y ∈ a, y.id < j.id) (hb : ∀ y ∈ b, j.id < y.id) : putJ (a ++ b) j = a ++ j :: b := by
  unfold putJ putS
  rw [List.foldl_append, putS_ahead j a [] ha, List.nil_append]
  cases b with
  | nil => simp
  | cons y r =>
    have h1 := hb y (List.mem_cons_self ..)
    have hy : (y.id != j.id) = true := by simp; omega
    have hd : decide (j.id ≤ y.id) = true := by simp; omega
    have : putStep j (a, false) y = (a ++ [j] ++ [y], true) := by simp only [putStep, hd, Bool.not_false, Bool.and_true, if_true, hy]
    rw [List.foldl_cons, this, putS_done j r _ (fun z hz => by have := hb z (List.mem_cons_of_mem _ hz); omega)]
    simp
theorem split_at {l : List Jn} (h : l.Pairwise (fun x y => x.id < y.id)) (id : Int) : ∃ a b, l = a ++ b ∧ (∀ y ∈ a, y.id < id) ∧ (∀ y ∈ b, id ≤ y.id) := by
  induction l with
  | nil => exact ⟨[], [], rfl, by simp, by simp⟩
  | cons x r ih =>
    rw [List.pairwise_cons] at h
    by_cases hx : x.id < id
    · obtain ⟨a, b, rfl, h1, h2⟩ := ih h.2
      exact ⟨x :: a, b, rfl, fun y hy => by rcases List.mem_cons.1 hy with rfl | hy; exact hx; exact h1 y hy, h2⟩
    · exact ⟨[], x :: r, rfl, by simp, fun y hy => by
        rcases List.mem_cons.1 hy with rfl | hy
        · omega
        · have := h.1 y hy; omega⟩

theorem ValJ.put {O : List Jn} (h : ValJ O) {x : Jn} (hp : postJ O x = 0) : ValJ (putJ O x) ∧ (∀ y, y ∈ putJ O x ↔ y = x ∨ y ∈ O) := by
  obtain ⟨hc, hn, ht, hl⟩ := post_zero hp
  obtain ⟨a, b, hO, ha, hb⟩ := split_at h.inc x.id
  have hne : ∀ y ∈ O, y.id ≠ x.id := fun y hy e => by rw [hasJ_iff.2 ⟨y, hy, e⟩] at hn; cases hn
  have hb' : ∀ y ∈ b, x.id < y.id := fun y hy => by
    have := hb y hy
    have := hne y (by rw [hO]; exact List.mem_append_right _ hy)
    omega
  have hput : putJ O x = a ++ x :: b := by rw [hO]; exact putJ_split x a b ha hb'
  have hmem : ∀ y, y ∈ putJ O x ↔ y = x ∨ y ∈ O := by
    intro y
    rw [hput, hO]
    simp only [List.mem_append, List.mem_cons]
    constructor
    · rintro (h | rfl | h)
      · exact .inr (.inl h)
      · exact .inl rfl
      · exact .inr (.inr h)
    · rintro (rfl | h | h)
      · exact .inr (.inl rfl)
      · exact .inl h
      · exact .inr (.inr h)
  refine ⟨⟨?_, ?_, ?_, ?_⟩, hmem⟩
  · rw [hput]
    have hp := h.inc
    rw [hO, List.pairwise_append] at hp
    rw [List.pairwise_append, List.pairwise_cons]
    refine ⟨hp.1, ⟨hb', hp.2.1⟩, fun y hy z hz => ?_⟩
    rcases List.mem_cons.1 hz with rfl | hz
    · exact ha y hy
    · exact hp.2.2 y hy z hz
  · intro y hy
    rcases (hmem y).1 hy with rfl | hy
    · exact hc
    · exact h.ok y hy
  · intro y hy
    cases hh : takenJ (putJ O x) y with
    | false => rfl
    | true =>
      obtain ⟨h1, h2, z, hz, hcl⟩ := taken_iff.1 hh
      obtain ⟨c1, c2, c3, c4⟩ := clash_iff.1 hcl
      rcases (hmem y).1 hy with rfl | hyO
      · rcases (hmem z).1 hz with rfl | hz
        · exact absurd rfl c1
        · rw [taken_iff.2 ⟨h1, h2, z, hz, hcl⟩] at ht
          cases ht
      · rcases (hmem z).1 hz with rfl | hz
        · have : takenJ O z = true := taken_iff.2 ⟨by rw [c3]; exact h1, c2, y, hyO, clash_iff.2 ⟨fun e => c1 e.symm, h2, c3.symm, c4.symm⟩⟩
          rw [this] at ht
          cases ht
        · have := h.free y hyO
          rw [taken_iff.2 ⟨h1, h2, z, hz, hcl⟩] at this
          cases this
  · rw [hput]
    have := congrArg List.length hO
    simp only [List.length_append, List.length_cons] at this ⊢
    omega

theorem ValJ.fit {m : Nat} : ∀ (l : List Jn) {O : List Jn}, ValJ O → ValJ (l.foldl (fitStep m) O)
  | [], _, h => h
  | x :: r, O, h => by
    rw [List.foldl_cons]
    refine ValJ.fit r ?_
    unfold fitStep
    split
    · split
      · rename_i hc
        simp only [Bool.and_eq_true, beq_iff_eq] at hc
        exact (h.put hc.2).1
      · exact h
    · exact h
theorem fit_val (m : Nat) (l : List Jn) : ValJ (fitJ m l) := ValJ.fit l ValJ.nil

theorem linesOf_filter (l : List Jn) (e f t : Int) : linesOf (l.filter (cnt e f t)) e f t = linesOf l e f t := by
  unfold linesOf
  rw [List.filter_filter]
  simp
theorem balT_filter (l : List Jn) (e f t : Int) : balT (l.filter (cnt e f t)) e f t = balT l e f t := by
  unfold balT accR
  rw [linesOf_filter]
theorem parT_filter (l : List Jn) (e f t : Int) : parT (l.filter (cnt e f t)) e f t = parT l e f t := by
  unfold parT parR
  rw [linesOf_filter, balT_filter]
end Go.Proofs.YtfnmlpnncjhnmaaGreat


/- The first call of law 10 is as the document fixes it. -/
set_option linter.unusedVariables false
set_option linter.unusedSimpArgs false
namespace Go.Proofs.YtfnmlpnncjhnmaaGreat
open Go.RowKit Go.Maps

theorem sl_lines2 {w : World} {F : Nat → Prop} {b : Nat} (x y : Ln) (hb : w.heap[b]? = some (.cells #[.int .i64 x.acc, .int .i64 x.amt, .int .i64 x.par, .int .i64 y.acc, .int .i64 y.amt, .int .i64 y.par] 85 (0, 0))) (hF : F b)
    (hx : I64 x.acc ∧ I64 x.amt ∧ I64 x.par) (hy : I64 y.acc ∧ I64 y.amt ∧ I64 y.par) : Sl tLn w F (some ⟨b, 0, none⟩) [x, y] := by
  have hlt : b < w.heap.size := (Array.getElem?_eq_some_iff.1 hb).1
  have hcell := fun o => cell_of_row w b o _ 85 (0, 0) hb
  intro i u hi
  match i, hi with
  | 0, hi =>
    simp at hi; subst hi
    refine ⟨_, [.int .i64 x.acc, .int .i64 x.amt, .int .i64 x.par], rfl, hF, hlt, fun j v hv => ?_, ln_mk x hx.1 hx.2.1 hx.2.2⟩
    match j, hv with
    | 0, hv => simp at hv; subst hv; exact hcell 0
    | 1, hv => simp at hv; subst hv; exact hcell 1
    | 2, hv => simp at hv; subst hv; exact hcell 2
  | 1, hi =>
    simp at hi; subst hi
    refine ⟨_, [.int .i64 y.acc, .int .i64 y.amt, .int .i64 y.par], rfl, hF, hlt, fun j v hv => ?_, ln_mk y hy.1 hy.2.1 hy.2.2⟩
    match j, hv with
    | 0, hv => simp at hv; subst hv; exact hcell 3
    | 1, hv => simp at hv; subst hv; exact hcell 4
    | 2, hv => simp at hv; subst hv; exact hcell 5

def aliveJ : Jn := ⟨1, 1, 3, ⟨#[]⟩, [⟨100, 5, 0⟩, ⟨200, -5, 0⟩], false⟩
theorem alive_chk : chk aliveJ = 0 := by decide +kernel
theorem alive_val : ValJ [aliveJ] := ⟨by simp, by intro x hx; simp at hx; subst hx; exact alive_chk, by
  intro x hx
  simp at hx
  subst hx
  simp [takenJ, aliveJ], by simp⟩
theorem srt_id {l : List Int} (h : l.Pairwise (fun a b => decide (a ≤ b) = true)) : srt l = l := List.mergeSort_of_pairwise h
theorem alive_acc : accS [] (linesOf [aliveJ] 1 0 5) = [(100, 5), (200, -5)] := by decide +kernel
theorem alive_bal : balT [aliveJ] 1 0 5 = ([(100, 5), (200, -5)], 0) := by
  have h1 : accR [aliveJ] 1 0 5 = [(100, 5), (200, -5)] := by
    unfold accR tellS
    rw [alive_acc]
    have : srt ([((100 : Int), (5 : Int)), (200, -5)].map (·.1)) = [100, 200] := srt_id (l := [100, 200]) (by simp)
    rw [this]
    decide +kernel
  unfold balT
  rw [h1]
  decide +kernel

theorem alive_sl (W : World) (c0 : W.heap.size = W.heap.size) : True := trivial
set_option maxHeartbeats 8000000 in
set_option maxRecDepth 100000 in
theorem alive10 (w : World) : Calls Tryz.prog 8 #[] w fun e w' => e = .returned (.bool true) ∧ Below w.heap.size w w' := by
  have HLB := Lib.hid (blk_alloc (blk_new w (.cells #[.int .i64 100, .int .i64 5, .int .i64 0, .int .i64 200, .int .i64 (-5), .int .i64 0] 85)) (.cells #[.int .i64 1, .int .i64 1, .int .i64 3, .string ⟨#[]⟩, .slice (some ⟨w.heap.size, 0, none⟩) 2 2, .bool false] 88))
  have HJB := Lib.hid (by have := blk_new (w.alloc (.cells #[.int .i64 100, .int .i64 5, .int .i64 0, .int .i64 200, .int .i64 (-5), .int .i64 0] 85)) (.cells #[.int .i64 1, .int .i64 1, .int .i64 3, .string ⟨#[]⟩, .slice (some ⟨w.heap.size, 0, none⟩) 2 2, .bool false] 88); simpa using this : ((w.alloc (.cells #[.int .i64 100, .int .i64 5, .int .i64 0, .int .i64 200, .int .i64 (-5), .int .i64 0] 85)).alloc (.cells #[.int .i64 1, .int .i64 1, .int .i64 3, .string ⟨#[]⟩, .slice (some ⟨w.heap.size, 0, none⟩) 2 2, .bool false] 88)).heap[w.heap.size + 1]? = some (.cells #[.int .i64 1, .int .i64 1, .int .i64 3, .string ⟨#[]⟩, .slice (some ⟨w.heap.size, 0, none⟩) 2 2, .bool false] 88 (0, 0)))
  have HB := Lib.hid (((Below.refl w.heap.size w).alloc (Nat.le_refl _) (.cells #[.int .i64 100, .int .i64 5, .int .i64 0, .int .i64 200, .int .i64 (-5), .int .i64 0] 85)).alloc (by simp) (.cells #[.int .i64 1, .int .i64 1, .int .i64 3, .string ⟨#[]⟩, .slice (some ⟨w.heap.size, 0, none⟩) 2 2, .bool false] 88))
  have HSL : Hid (Sl tJn ((w.alloc (.cells #[.int .i64 100, .int .i64 5, .int .i64 0, .int .i64 200, .int .i64 (-5), .int .i64 0] 85)).alloc (.cells #[.int .i64 1, .int .i64 1, .int .i64 3, .string ⟨#[]⟩, .slice (some ⟨w.heap.size, 0, none⟩) 2 2, .bool false] 88)) (fun _ => True) (some ⟨w.heap.size + 1, 0, none⟩) [aliveJ]) :=
    Lib.hid (sl_oneJ (j := aliveJ) (a := some ⟨w.heap.size, 0, none⟩) (cap := 2) HJB.out trivial (jn_mk aliveJ (by decide) (by decide) (by decide) (by decide) (sl_lines2 ⟨100, 5, 0⟩ ⟨200, -5, 0⟩ HLB.out trivial ⟨by decide, by decide, by decide⟩ ⟨by decide, by decide, by decide⟩) (by decide) (by decide) (by rw [line_bytes]; decide)))
  go_enter Tryz.func8, Tryz.ntmps8
  go_wp2_with fail
  refine (lof_yes [aliveJ] (some ⟨w.heap.size + 1, 0, none⟩) 1 _ HSL.out (by simp) alive_val.incJ alive_val.of).mono ?_
  rintro en w2 ⟨g, ga, gc, rfl, hg, hat, hb⟩
  have HB2 := Lib.hid (belows_then HB.out (by simp; omega) hb)
  have HAT := Lib.hid hat
  clear hb hat HLB HJB HSL HB
  go_wp2_with fail
  refine (balances_any HAT.out (by simp) alive_val.good 1 0 5 (by decide) (by decide)).mono ?_
  rintro en w3 ⟨v, rfl, ho, hb⟩
  rw [alive_bal] at ho ⊢
  have HB3 := Lib.hid (belows_then HB2.out HB2.out.size hb)
  have hform := ho.ownF.form
  obtain ⟨oa, oc, rfl, _, _, hos⟩ := ho.slice
  have HOS := Lib.hid hos
  obtain ⟨og, rfl⟩ : ∃ og, oa = some ⟨og, 0, none⟩ := by
    rcases hform with ⟨_, h⟩ | ⟨og, cap, h, _⟩
    · cases h
    · injection h with h
      exact ⟨og, h⟩
  clear ho hb hos hform
  go_wp2_with fail
  refine (tsum_any [(100, 5), (200, -5)] (some ⟨og, 0, none⟩) oc _ HOS.out (by simp)).mono ?_
  rintro en w4 ⟨rfl, hb⟩
  have hadd : addM ([((100 : Int), (5 : Int)), (200, -5)].map (·.2)) = (0, 0) := by decide +kernel
  rw [hadd]
  have HB4 := Lib.hid (belows_then HB3.out HB3.out.size hb)
  obtain ⟨ad, hade, _, hadl, hc0, hc1, _, _⟩ := bal_at (Sl.keep (fun k hk _ => hb.block k hk) HOS.out) 0 (by simp)
  injection hade with hade
  subst hade
  simp [Addr.add] at hc0 hc1 hadl
  clear hb hadd
  go_wp2_with fail
  go_ret
  exact ⟨rfl, HB4.out⟩
end Go.Proofs.YtfnmlpnncjhnmaaGreat
