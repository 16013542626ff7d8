/- The document's Taken. -/
import Derived.Test.YtbgkladgeijgdaaGreatX08GroupOne
set_option linter.unusedVariables false
set_option linter.unusedSimpArgs false
namespace Go.Proofs.YtbgkladgeijgdaaGreat
open Go.RowKit Go.Maps

def clash (j x : Jn) : Bool := x.id != j.id && (!x.void && (x.ref.toList == j.ref.toList && x.en == j.en))
def takenJ (l : List Jn) (j : Jn) : Bool := !j.ref.toList.isEmpty && (!j.void && l.any (clash j))
theorem clash_cases {j x : Jn} {b : Bool} (h : clash j x = b) : (b = false ∧ ((x.id != j.id) = false ∨ (x.id != j.id) = true ∧ (x.void = true ∨ x.void = false ∧ ((x.ref.toList == j.ref.toList) = false ∨ (x.ref.toList == j.ref.toList) = true ∧ (x.en == j.en) = false)))) ∨
    (b = true ∧ (x.id != j.id) = true ∧ x.void = false ∧ (x.ref.toList == j.ref.toList) = true ∧ (x.en == j.en) = true) := by
  subst h
  unfold clash
  cases x.id != j.id <;> cases x.void <;> cases x.ref.toList == j.ref.toList <;> cases x.en == j.en <;> simp

set_option maxHeartbeats 4000000 in
set_option maxRecDepth 100000 in
theorem rtaken_any (l : List Jn) (a : Option Addr) (cap : Nat) (j : Jn) (ja : Option Addr) (jc : Nat) (w : World) {F : Nat → Prop} (hs : Sl tJn w F a l) (hl : l.length ≤ maxLen) :
    Calls Tryz.prog 119 #[.slice a l.length cap, jnv j ja jc] w fun e w' => e = .returned (.bool (takenJ l j)) ∧ Below w.heap.size w w' := by
  have HS := Lib.hid hs
  have hl' : l.length ≤ 9223372036854775807 := by unfold maxLen at hl; omega
  clear hs hl
  obtain ⟨id, en, pe, ref, lines, void⟩ := j
  generalize htk : takenJ l ⟨id, en, pe, ref, lines, void⟩ = res
  have HT := Lib.hid htk
  clear htk
  have HB := Lib.hid ((Below.refl w.heap.size w).alloc (Nat.le_refl _) (.cells #[.int .i64 id, .int .i64 en, .int .i64 pe, .string ref, .slice ja lines.length jc, .bool void] 77))
  have HZ := Lib.hid (blk_new w (.cells #[.int .i64 id, .int .i64 en, .int .i64 pe, .string ref, .slice ja lines.length jc, .bool void] 77))
  have hact : (ref.toList.isEmpty = true ∨ ref.toList.isEmpty = false ∧ (void = true ∨ void = false)) := by
    cases ref.toList.isEmpty <;> cases void <;> simp
  go_enter Tryz.func119, Tryz.ntmps119
  go_wp2_with fail
  go_loopw [5] (fun vi wr => ∃ n : Nat, n ≤ l.length ∧ vi = .int .i64 n ∧ Hid ((l.take n).any (clash ⟨id, en, pe, ref, lines, void⟩) = false) ∧ Below w.heap.size w wr ∧ wr.heap[w.heap.size]? = some (.cells #[.int .i64 id, .int .i64 en, .int .i64 pe, .string ref, .slice ja lines.length jc, .bool void] 77 (0, 0))) (fun vi _ => l.length - (intOf vi).toNat)
  case atStart => exact ⟨0, Nat.zero_le _, rfl, rfl, HB.out, HZ.out⟩
  case round =>
    obtain ⟨n, hn, rfl, hany, hb1, hz1⟩ := hrel
    have HB1 := Lib.hid hb1
    have HZ1 := Lib.hid hz1
    clear hb1 hz1
    have hz := blk_cells HZ1.out
    have hzl := blk_lt HZ1.out
    by_cases hlt : n < l.length
    · rcases hact with h1 | ⟨h1, rfl | rfl⟩
      · have hr : res = false := by rw [← HT.out]; simp only [takenJ, h1, Bool.not_true, Bool.false_and]
        have HR := Lib.hid hr
        clear hr
        go_wp2_with fail
        go_ret
        rw [HR.out]
        exact ⟨rfl, HB1.out⟩
      · have hr : res = false := by rw [← HT.out]; simp [takenJ]
        have HR := Lib.hid hr
        clear hr
        go_wp2_with fail
        go_ret
        rw [HR.out]
        exact ⟨rfl, HB1.out⟩
      · obtain ⟨ad, la, lc, rfl, _, hadl, hc0, hc1, hc2, hc3, hc4, hc5, hr⟩ := jn_at (HS.out.keep fun k hk _ => HB1.out.block k hk) n hlt
        clear hr
        cases hv : clash ⟨id, en, pe, ref, lines, false⟩ l[n]
        · have hnext := (any_take_succ (clash ⟨id, en, pe, ref, lines, false⟩) l n hlt).trans (by rw [hany.out, hv]; try rfl)
          have HN := Lib.hid hnext
          have hcl := clash_cases hv
          simp only [true_and, Bool.false_eq_true, false_and, or_false] at hcl
          clear hnext hv
          generalize hvoid : l[n].void = xv at hc5 hcl
          clear hvoid
          rcases hcl with h2 | ⟨h2, rfl | ⟨rfl, h4 | ⟨h4, h5⟩⟩⟩
          all_goals
            go_wp2_with fail
            go_quiet (fail)
            go_wp2_with fail
            go_roundw
            case rel => exact ⟨n + 1, by omega, by go_num, HN.out, below_drewN HB1.out _, blk_drew HZ1.out _⟩
            case measure => simp [intOf]; omega
        · have hr : res = true := by
            rw [← HT.out]
            simp only [takenJ, h1, Bool.not_false, Bool.true_and]
            exact any_at _ l n hlt hv
          have HR := Lib.hid hr
          have hcl := clash_cases hv
          simp only [Bool.true_eq_false, false_and, true_and, false_or] at hcl
          clear hr hv
          obtain ⟨h2, h3, h4, h5⟩ := hcl
          rw [h3] at hc5
          go_wp2_with fail
          go_quiet (fail)
          go_wp2_with fail
          go_ret
          rw [HR.out]
          exact ⟨rfl, below_drewN HB1.out _⟩
    · have hno : l.any (clash ⟨id, en, pe, ref, lines, void⟩) = false := by
        have := hany.out
        rwa [take_all hn hlt] at this
      have hr : res = false := by rw [← HT.out]; simp only [takenJ, hno, Bool.and_false]
      have HR := Lib.hid hr
      clear hr hno
      go_wp2_with fail
      go_ret
      rw [HR.out]
      exact ⟨rfl, HB1.out⟩
end Go.Proofs.YtbgkladgeijgdaaGreat


/- The document's Post. -/
set_option linter.unusedVariables false
set_option linter.unusedSimpArgs false
namespace Go.Proofs.YtbgkladgeijgdaaGreat
open Go.RowKit Go.Maps

def postJ (l : List Jn) (j : Jn) : Int := if chk j != 0 then chk j else if hasJ l j.id then 7 else if takenJ l j then 8 else if decide (200 ≤ (l.length : Int)) then 13 else 0
theorem post_cases (l : List Jn) (j : Jn) : (chk j != 0) = true ∧ postJ l j = chk j ∨ (chk j != 0) = false ∧ (hasJ l j.id = true ∧ postJ l j = 7 ∨ hasJ l j.id = false ∧ (takenJ l j = true ∧ postJ l j = 8 ∨ takenJ l j = false ∧ (200 ≤ (l.length : Int) ∧ postJ l j = 13 ∨ (l.length : Int) < 200 ∧ postJ l j = 0))) := by
  unfold postJ
  cases h1 : chk j != 0
  · cases h2 : hasJ l j.id
    · cases h3 : takenJ l j
      · by_cases h4 : 200 ≤ (l.length : Int)
        · simp [h4]
        · simp [h4]; omega
      · simp
    · simp
  · simp

theorem rtaken_is (l : List Jn) (a : Option Addr) (cap : Nat) (j : Jn) (ja : Option Addr) (jc : Nat) (w : World) {F : Nat → Prop} (hs : Sl tJn w F a l) (hl : l.length ≤ maxLen) {b : Bool} (h : takenJ l j = b) :
    Calls Tryz.prog 119 #[.slice a l.length cap, jnv j ja jc] w fun e w' => e = .returned (.bool b) ∧ Below w.heap.size w w' := by
  have := rtaken_any l a cap j ja jc w hs hl
  rwa [h] at this

set_option maxHeartbeats 4000000 in
set_option maxRecDepth 100000 in
theorem rpost_any (l : List Jn) (a : Option Addr) (cap : Nat) (j : Jn) (ja : Option Addr) (jc : Nat) (w : World) {F G : Nat → Prop} (hs : Sl tJn w F a l) (hl : l.length ≤ maxLen) (hj : Sl tLn w G ja j.lines) :
    Calls Tryz.prog 80 #[.slice a l.length cap, jnv j ja jc] w fun e w' => e = .returned (.int .i64 (postJ l j)) ∧ Below w.heap.size w w' := by
  have HS := Lib.hid hs
  have HL := Lib.hid hl
  have HJ := Lib.hid hj
  have HC := Lib.hid (post_cases l j)
  clear hs hl hj
  obtain ⟨id, en, pe, ref, lines, void⟩ := j
  generalize hp : postJ l ⟨id, en, pe, ref, lines, void⟩ = res at HC
  clear hp
  have HB := Lib.hid ((Below.refl w.heap.size w).alloc (Nat.le_refl _) (.cells #[.int .i64 id, .int .i64 en, .int .i64 pe, .string ref, .slice ja lines.length jc, .bool void] 77))
  have HZ := Lib.hid (blk_new w (.cells #[.int .i64 id, .int .i64 en, .int .i64 pe, .string ref, .slice ja lines.length jc, .bool void] 77))
  go_enter Tryz.func80, Tryz.ntmps80
  go_wp2_with fail
  refine (rcheck_any ⟨id, en, pe, ref, lines, void⟩ ja jc _ (Sl.keep (fun k hk _ => HB.out.block k hk) HJ.out)).mono ?_
  rintro e w1 ⟨rfl, hb⟩
  have HZ1 := Lib.hid (blk_below HZ.out hb)
  have HB1 := Lib.hid (belows_then HB.out HB.out.size hb)
  have hz := blk_cells HZ1.out
  clear hb
  go_wp2_with fail
  refine (rget_any l a cap id _ (Sl.keep (fun k hk _ => HB1.out.block k hk) HS.out) HL.out).mono ?_
  rintro e w2 ⟨x, xa, xc, rfl, hb, _⟩
  have HZ2 := Lib.hid (blk_below HZ1.out hb)
  have HB2 := Lib.hid (belows_then HB1.out HB1.out.size hb)
  clear hz hb
  obtain ⟨x0, x1, x2, x3, x4, x5⟩ := x
  have HZ3 := Lib.hid (blk_alloc HZ2.out (.cells #[.int .i64 x0, .int .i64 x1, .int .i64 x2, .string x3, .slice xa x4.length xc, .bool x5] 77))
  have HB3 := Lib.hid (HB2.out.alloc HB2.out.size (.cells #[.int .i64 x0, .int .i64 x1, .int .i64 x2, .string x3, .slice xa x4.length xc, .bool x5] 77))
  have hz := blk_cells HZ3.out
  rcases HC.out with ⟨h1, hr⟩ | ⟨h1, ⟨h2, hr⟩ | ⟨h2, ⟨h3, hr⟩ | ⟨h3, ⟨h4, hr⟩ | ⟨h4, hr⟩⟩⟩⟩
  · have HR := Lib.hid hr
    clear hr
    go_wp2_with fail
    go_ret
    rw [HR.out]
    exact ⟨rfl, HB3.out⟩
  · have HR := Lib.hid hr
    clear hr
    rw [h2]
    go_wp2_with fail
    go_ret
    rw [HR.out]
    exact ⟨rfl, HB3.out⟩
  · have HR := Lib.hid hr
    have H3 := Lib.hid h3
    clear hr h3
    rw [h2]
    go_wp2_with fail
    refine (rtaken_is l a cap ⟨id, en, pe, ref, lines, void⟩ ja jc _ (Sl.keep (fun k hk _ => HB3.out.block k hk) HS.out) HL.out H3.out).mono ?_
    rintro e w4 ⟨rfl, hb⟩
    have HB4 := Lib.hid (belows_then HB3.out HB3.out.size hb)
    clear hb hz
    go_wp2_with fail
    go_ret
    rw [HR.out]
    exact ⟨rfl, HB4.out⟩
  · have HR := Lib.hid hr
    have H3 := Lib.hid h3
    clear hr h3
    rw [h2]
    go_wp2_with fail
    refine (rtaken_is l a cap ⟨id, en, pe, ref, lines, void⟩ ja jc _ (Sl.keep (fun k hk _ => HB3.out.block k hk) HS.out) HL.out H3.out).mono ?_
    rintro e w4 ⟨rfl, hb⟩
    have HB4 := Lib.hid (belows_then HB3.out HB3.out.size hb)
    clear hb hz
    go_wp2_with fail
    go_ret
    rw [HR.out]
    exact ⟨rfl, HB4.out⟩
  · have HR := Lib.hid hr
    have H3 := Lib.hid h3
    clear hr h3
    rw [h2]
    go_wp2_with fail
    refine (rtaken_is l a cap ⟨id, en, pe, ref, lines, void⟩ ja jc _ (Sl.keep (fun k hk _ => HB3.out.block k hk) HS.out) HL.out H3.out).mono ?_
    rintro e w4 ⟨rfl, hb⟩
    have HB4 := Lib.hid (belows_then HB3.out HB3.out.size hb)
    clear hb hz
    go_wp2_with fail
    go_ret
    rw [HR.out]
    exact ⟨rfl, HB4.out⟩
end Go.Proofs.YtbgkladgeijgdaaGreat


/- The document's Put: the plain side, and one journal as a slice. -/
set_option linter.unusedVariables false
set_option linter.unusedSimpArgs false
namespace Go.Proofs.YtbgkladgeijgdaaGreat
open Go.RowKit Go.Maps

theorem infoJ : (Tryz.prog.info? 77).map (fun i => (i.zero, i.size, i.bytes)) = some (some (.agg #[.int .i64 0, .int .i64 0, .int .i64 0, .string ⟨#[]⟩, .slice none 0 0, .bool false]), 6, 72) := by kernel_rfl
theorem jn_one (w : World) (F : Nat → Prop) (c : List Value) (x : Jn) (h : tJn.R w F c x) : ∀ u ∈ c, u.oneCell' = true := by
  obtain ⟨a, cap, rfl, _⟩ := jn_inv h
  simp [Value.oneCell']
/-- one journal in a new block of its own, as append takes it -/
theorem sl_oneJ {w : World} {F : Nat → Prop} {b : Nat} {j : Jn} {a : Option Addr} {cap : Nat} (hb : w.heap[b]? = some (.cells #[.int .i64 j.id, .int .i64 j.en, .int .i64 j.pe, .string j.ref, .slice a j.lines.length cap, .bool j.void] 77 (0, 0)))
    (hF : F b) (hr : tJn.R w F (jcs j a cap) j) : Sl tJn w F (some ⟨b, 0, none⟩) [j] := by
  intro i x hi
  cases i with
  | succ i => simp at hi
  | zero =>
    simp at hi
    subst hi
    refine ⟨_, jcs j a cap, rfl, hF, (Array.getElem?_eq_some_iff.1 hb).1, fun k u hu => ?_, hr⟩
    rw [Nat.zero_mul, Go.Addr.add_add, Nat.zero_add]
    have : (⟨b, 0, none⟩ : Addr).add k = ⟨b, k, none⟩ := by unfold Addr.add; split <;> simp_all
    rw [this, cell_of_row w b k _ 77 (0, 0) hb]
    simpa using hu

def putStep (j : Jn) (s : List Jn × Bool) (x : Jn) : List Jn × Bool :=
  let t := if !s.2 && decide (j.id ≤ x.id) then (s.1 ++ [j], true) else s
  if x.id != j.id then (t.1 ++ [x], t.2) else t
def putS (j : Jn) (l : List Jn) : List Jn × Bool := l.foldl (putStep j) ([], false)
def putJ (l : List Jn) (j : Jn) : List Jn := if (putS j l).2 then (putS j l).1 else (putS j l).1 ++ [j]
theorem putS_succ (j : Jn) (l : List Jn) (n : Nat) (hn : n < l.length) : putS j (l.take (n + 1)) = putStep j (putS j (l.take n)) l[n] := by
  unfold putS
  rw [List.take_succ_eq_append_getElem hn, List.foldl_append]
  rfl
theorem putStep_len (j : Jn) (s : List Jn × Bool) (x : Jn) : (putStep j s x).1.length + (if s.2 then 1 else 0) ≤ s.1.length + 1 + (if (putStep j s x).2 then 1 else 0) := by
  unfold putStep
  obtain ⟨o, d⟩ := s
  cases d <;> by_cases h1 : j.id ≤ x.id <;> cases h2 : x.id != j.id <;> simp [h1, h2]
theorem putS_len (j : Jn) : ∀ (l : List Jn), (putS j l).1.length ≤ l.length + (if (putS j l).2 then 1 else 0) := by
  intro l
  have : ∀ n, n ≤ l.length → (putS j (l.take n)).1.length ≤ n + (if (putS j (l.take n)).2 then 1 else 0) := by
    intro n
    induction n with
    | zero => intro _; simp [putS]
    | succ n ih =>
      intro hn
      have h1 := ih (by omega)
      rw [putS_succ j l n (by omega)]
      have h2 := putStep_len j (putS j (l.take n)) l[n]
      omega
  have h := this l.length (Nat.le_refl _)
  rwa [List.take_length] at h
theorem putS_take_len (j : Jn) (l : List Jn) (n : Nat) (hn : n ≤ l.length) : (putS j (l.take n)).1.length ≤ l.length + 1 := by
  have h := putS_len j (l.take n)
  rw [List.length_take] at h
  split at h <;> omega
end Go.Proofs.YtbgkladgeijgdaaGreat
