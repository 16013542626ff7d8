/- trial: right, counts, account, partner. -/
import Derived.Test.YtfbbjlhhkfdncaaIk
import Derived.Test.YtfbbjlhhkfdncaaBg
set_option linter.unusedVariables false
set_option linter.unusedSimpArgs false
namespace Go.Proofs.Ytfbbjlhhkfdncaa
open Go.RowKit Go.Maps

theorem sl_two (x y : Int) (b : Nat) (W : World) (hb : W.heap[b]? = some (.cells #[.int .i64 x, .int .i64 y] 3 (0, 0))) (wx : I64 x) (wy : I64 y) : Sl tInt W (fun _ => True) (some ⟨b, 0, none⟩) [x, y] := by
  intro i u hi
  have hlt : b < W.heap.size := (Array.getElem?_eq_some_iff.1 hb).1
  have hcell := fun o => cell_of_row W b o #[.int .i64 x, .int .i64 y] 3 (0, 0) hb
  match i, hi with
  | 0, hi =>
    simp at hi; subst hi
    refine ⟨_, [.int .i64 x], rfl, trivial, hlt, fun j v hv => ?_, rfl, wx⟩
    cases j with
    | zero => simp at hv; subst hv; exact hcell 0
    | succ j => simp at hv
  | 1, hi =>
    simp at hi; subst hi
    refine ⟨_, [.int .i64 y], rfl, trivial, hlt, fun j v hv => ?_, rfl, wy⟩
    cases j with
    | zero => simp at hv; subst hv; exact hcell 1
    | succ j => simp at hv
theorem valid2 (x y : Int) (b : Nat) (W : World) (hb : W.heap[b]? = some (.cells #[.int .i64 x, .int .i64 y] 3 (0, 0))) (wx : I64 x) (wy : I64 y) {r : Bool} (hr : (monthOk x && monthOk y) = r) :
    Calls Try.prog 105 #[.slice (some ⟨b, 0, none⟩) 2 2] W fun e w' => e = .returned (.bool r) ∧ Below W.heap.size W w' := by
  have := term_valid (some ⟨b, 0, none⟩) 2 [x, y] W (by simp only [List.length_cons, List.length_nil]; omega) (sl_two x y b W hb wx wy)
  simp only [List.all_cons, List.all_nil, Bool.and_true] at this
  rwa [hr] at this

def rightB (e f t : Int) : Bool := entB e && ((monthOk f && monthOk t) && decide (f ≤ t))
theorem right_cases {e f t : Int} {b : Bool} (h : rightB e f t = b) : (b = false ∧ (e < 1 ∨ 1 ≤ e ∧ (9 < e ∨ e ≤ 9 ∧ ((monthOk f && monthOk t) = false ∨ (monthOk f && monthOk t) = true ∧ decide (f ≤ t) = false)))) ∨
    (b = true ∧ 1 ≤ e ∧ e ≤ 9 ∧ (monthOk f && monthOk t) = true ∧ f ≤ t) := by
  subst h
  unfold rightB entB
  cases (monthOk f && monthOk t) with
  | false => simp only [Bool.false_and, Bool.and_false, true_and, Bool.false_eq_true, false_and, true_or, and_true, or_false]; omega
  | true =>
    by_cases h1 : 1 ≤ e <;> by_cases h2 : e ≤ 9 <;> by_cases h3 : f ≤ t <;> simp [h1, h2, h3] <;> omega

abbrev tofv (e f t : Int) : Value := .agg #[.int .i64 e, .int .i64 f, .int .i64 t]
set_option maxHeartbeats 2000000 in
theorem right_any (e f t : Int) (hf : I64 f) (ht : I64 t) (w : World) {b : Bool} (hb : rightB e f t = b) :
    Calls Try.prog 78 #[tofv e f t] w fun en w' => en = .returned (.bool b) ∧ Below w.heap.size w w' := by
  have hcs := right_cases hb
  have HF := Lib.hid hf
  have HT := Lib.hid ht
  clear hb hf ht
  have HW := Lib.hid (by have := blk_new (w.alloc (.cells #[.int .i64 e, .int .i64 f, .int .i64 t] 98)) (.cells #[.int .i64 f, .int .i64 t] 3); simpa using this : ((w.alloc (.cells #[.int .i64 e, .int .i64 f, .int .i64 t] 98)).alloc (.cells #[.int .i64 f, .int .i64 t] 3)).heap[w.heap.size + 1]? = some (.cells #[.int .i64 f, .int .i64 t] 3 (0, 0)))
  have HZ := Lib.hid (blk_alloc (blk_new w (.cells #[.int .i64 e, .int .i64 f, .int .i64 t] 98)) (.cells #[.int .i64 f, .int .i64 t] 3))
  have HB := Lib.hid (((Below.refl w.heap.size w).alloc (Nat.le_refl _) (.cells #[.int .i64 e, .int .i64 f, .int .i64 t] 98)).alloc (by simp) (.cells #[.int .i64 f, .int .i64 t] 3))
  rcases hcs with ⟨rfl, h | ⟨h1, h | ⟨h2, h⟩⟩⟩ | ⟨rfl, h1, h2, h3, h4⟩
  · go_enter Try.func78, Try.ntmps78
    go_wp2_with fail
    go_ret
    exact ⟨rfl, (Below.refl _ _).alloc (Nat.le_refl _) _⟩
  · go_enter Try.func78, Try.ntmps78
    go_wp2_with fail
    go_ret
    exact ⟨rfl, (Below.refl _ _).alloc (Nat.le_refl _) _⟩
  · rcases h with h | ⟨h, h5⟩
    · have H := Lib.hid h
      clear h
      go_enter Try.func78, Try.ntmps78
      go_wp2_with fail
      refine (valid2 f t _ _ HW.out HF.out HT.out H.out).mono ?_
      rintro en w2 ⟨rfl, hb⟩
      have HB2 := Lib.hid (belows_then HB.out (by simp; omega) hb)
      clear hb
      go_wp2_with fail
      go_ret
      exact ⟨rfl, HB2.out⟩
    · have H := Lib.hid h
      clear h
      go_enter Try.func78, Try.ntmps78
      go_wp2_with fail
      refine (valid2 f t _ _ HW.out HF.out HT.out H.out).mono ?_
      rintro en w2 ⟨rfl, hb⟩
      have hz := blk_cells (blk_below HZ.out hb)
      have HB2 := Lib.hid (belows_then HB.out (by simp; omega) hb)
      clear hb
      go_wp2_with fail
      go_ret
      exact ⟨rfl, HB2.out⟩
  · have H := Lib.hid h3
    clear h3
    go_enter Try.func78, Try.ntmps78
    go_wp2_with fail
    refine (valid2 f t _ _ HW.out HF.out HT.out H.out).mono ?_
    rintro en w2 ⟨rfl, hb⟩
    have hz := blk_cells (blk_below HZ.out hb)
    have HB2 := Lib.hid (belows_then HB.out (by simp; omega) hb)
    clear hb
    go_wp2_with fail
    go_ret
    exact ⟨rfl, HB2.out⟩

/-- does a journal count? -/
def cnt (e f t : Int) (j : Jn) : Bool := !j.void && (j.en == e && (decide (f ≤ j.pe) && decide (j.pe ≤ t)))
theorem cnt_cases {e f t : Int} {j : Jn} {b : Bool} (h : cnt e f t j = b) : (b = false ∧ (j.void = true ∨ j.void = false ∧ ((j.en == e) = false ∨ (j.en == e) = true ∧ (decide (f ≤ j.pe) = false ∨ decide (f ≤ j.pe) = true ∧ decide (j.pe ≤ t) = false)))) ∨
    (b = true ∧ j.void = false ∧ (j.en == e) = true ∧ f ≤ j.pe ∧ j.pe ≤ t) := by
  subst h
  unfold cnt
  cases j.void <;> cases j.en == e <;> by_cases h3 : f ≤ j.pe <;> by_cases h4 : j.pe ≤ t <;> simp [h3, h4] <;> omega
set_option maxHeartbeats 2000000 in
theorem counts_any (e f t : Int) (j : Jn) (ja : Option Addr) (jc : Nat) (w : World) {b : Bool} (hb : cnt e f t j = b) :
    Calls Try.prog 107 #[tofv e f t, jnv j ja jc] w fun en w' => en = .returned (.bool b) ∧ Below w.heap.size w w' := by
  have hcs := cnt_cases hb
  clear hb
  obtain ⟨i1, i2, i3, i4, i5, i6⟩ := j
  simp only at hcs
  rcases hcs with ⟨rfl, rfl | ⟨rfl, h2 | ⟨h2, h3 | ⟨h3, h4⟩⟩⟩⟩ | ⟨rfl, rfl, h2, h3, h4⟩
  all_goals
    go_enter Try.func107, Try.ntmps107
    go_wp2_with fail
    go_ret
    exact ⟨rfl, ((Below.refl _ _).alloc (Nat.le_refl _) _).alloc (by simp) _⟩

def AddPost (w : World) (b : Nat) (s' : List (Int × Int)) (e : Ending) (w' : World) : Prop :=
  e = .returned (.tuple #[]) ∧ MapIs mInt (Value.int .i64) w' b s' ∧ But (· = b) w w'

set_option maxHeartbeats 2000000 in
theorem account_any {w : World} {b : Nat} {s : List (Int × Int)} (h : MapIs mInt (Value.int .i64) w b s) (l : Ln) (hk : I64 l.acc) :
    Calls Try.prog 108 #[.map (some b), lnv l] w (AddPost w b (sAdd s l.acc l.amt)) := by
  obtain ⟨acc, amt, par⟩ := l
  simp only at hk
  have hbl := h.lt
  have hlk := lookI h Try.underlying138 hk (w.alloc (.cells #[.int .i64 acc, .int .i64 amt, .int .i64 par] 43)) (Below.heap_alloc w _ b hbl)
  have HM : MapIs mInt (Value.int .i64) (w.alloc (.cells #[.int .i64 acc, .int .i64 amt, .int .i64 par] 43)) b s := h.keep (Below.heap_alloc w _ b hbl)
  have HMH := Lib.hid HM
  have HK := Lib.hid hk
  have hun : sAdd s acc amt = ins s acc (wrap64 (at0 s acc + amt)) := rfl
  have HUN := Lib.hid hun
  clear h hk HM hun hbl
  go_enter Try.func108, Try.ntmps108
  go_wp2_with (at_mapUpdate; refine wp_update (M := mInt) (ev := Value.int .i64) rfl _ _ _ 138 rfl _ Try.underlying138 b s acc (wrap64 (at0 s acc + amt)) rfl rfl rfl HMH.out HK.out ?_; intro w2 hm2 ho2)
  have HB : But (· = b) w w2 := ((But.refl _ w).alloc _).only ho2 (.inl rfl)
  have HF : AddPost w b (sAdd s acc amt) (.returned (.tuple #[])) w2 := ⟨rfl, by rw [HUN.out]; exact hm2, HB⟩
  have HFF := Lib.hid HF
  clear HF HB hm2 ho2
  go_wp2_with fail
  go_end0
  exact HFF.out

def sPar (s : List (Int × Int)) (l : Ln) : List (Int × Int) := if l.par == 0 then s else sAdd s l.par l.amt
end Go.Proofs.Ytfbbjlhhkfdncaa
