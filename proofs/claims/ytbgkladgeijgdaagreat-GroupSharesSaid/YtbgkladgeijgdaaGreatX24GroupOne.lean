/- income: balances with their signs turned, sums, what is left. -/
import Derived.Test.YtbgkladgeijgdaaGreatX16GroupOne
import Derived.Test.YtbgkladgeijgdaaGreatX17GroupOne
import Derived.Test.YtbgkladgeijgdaaGreatX23GroupOne
import Derived.Test.YtbgkladgeijgdaaGreatX19GroupOne
import Derived.LoopN
import Derived.Test.YtbgkladgeijgdaaGreatX18GroupOne
import Derived.Test.YtbgkladgeijgdaaGreatX21GroupOne
set_option linter.unusedVariables false
set_option linter.unusedSimpArgs false
namespace Go.Proofs.YtbgkladgeijgdaaGreat
open Go.RowKit Go.Maps Go.Deep

def negB (x : Int × Int) : Int × Int := (x.1, -x.2)
theorem i64_ofB {n : Int} (h1 : -9223372036854775808 ≤ n) (h2 : n ≤ 9223372036854775807) : I64 n := by
  unfold I64 Lit.wf
  simp [IntKind.min, IntKind.max, IntKind.bits, IntKind.signed]
  omega
theorem wrap_is {n : Int} (h1 : -9223372036854775808 ≤ n) (h2 : n ≤ 9223372036854775807) : IntKind.i64.wrap n = n := by
  simp only [IntKind.wrap, IntKind.bits, IntKind.signed, Int.reducePow]
  simp
  split <;> omega

theorem madd2 (x y : Int) (b : Nat) (W : World) (hb : W.heap[b]? = some (.cells #[.int .i64 x, .int .i64 y] 3 (0, 0))) (wx : I64 x) (wy : I64 y) {r : Int × Int} (hr : addM [x, y] = r) :
    Calls Tryz.prog 92 #[.slice (some ⟨b, 0, none⟩) 2 2] W fun e w' => e = .returned (.tuple #[.int .i64 r.1, .int .i64 r.2]) ∧ Below W.heap.size W w' := by
  have := madd_any [x, y] (some ⟨b, 0, none⟩) 2 W (sl_two x y b W hb wx wy) (by simp)
  rw [hr] at this
  exact this

end Go.Proofs.YtbgkladgeijgdaaGreat


/- income.Of: the statement of balances. -/
set_option linter.unusedVariables false
set_option linter.unusedSimpArgs false
namespace Go.Proofs.YtbgkladgeijgdaaGreat
open Go.RowKit Go.Maps Go.Deep

def incI (r : List Ac) (l : List (Int × Int)) : List (Int × Int) := (l.filter (pickB r [4])).map negB
def incO (r : List Ac) (l : List (Int × Int)) : List (Int × Int) := l.filter (pickB r [5])
/-- earned, spent, left; the error -/
def incR (r : List Ac) (l : List (Int × Int)) : (Int × Int × Int) × Int :=
  let a := addM ((incI r l).map (·.2))
  let b := addM ((incO r l).map (·.2))
  let n := addM [a.1, -b.1]
  if a.2 != 0 then ((0, 0, 0), a.2) else if b.2 != 0 then ((0, 0, 0), b.2) else if n.2 != 0 then ((0, 0, 0), n.2) else ((a.1, b.1, n.1), 0)
def IncP (w : World) (r : List Ac) (l : List (Int × Int)) (t : (Int × Int × Int) × Int) (e : Ending) (w' : World) : Prop :=
  ∃ v1 v2, e = .returned (.tuple #[.agg #[v1, v2, .int .i64 t.1.1, .int .i64 t.1.2.1, .int .i64 t.1.2.2], .int .i64 t.2]) ∧
    (t.2 = 0 → OwnL tBal w' w.heap.size v1 (incI r l) ∧ OwnL tBal w' w.heap.size v2 (incO r l) ∧ (v1.ownBlock = none ∨ v1.ownBlock ≠ v2.ownBlock)) ∧ (t.2 ≠ 0 → v1 = .slice none 0 0 ∧ v2 = .slice none 0 0) ∧ Below w.heap.size w w'
theorem addM_fit (l : List Int) : fitsB (addM l).1 = true := by
  unfold addM
  split
  · unfold fitS
    split
    · assumption
    · rfl
  · rfl
theorem five (w : World) (b : Nat) {t : TypeId} {x0 x1 x2 x3 x4 : Value} (h : w.heap[b]? = some (.cells #[x0, x1, x2, x3, x4] t (0, 0))) (v0 v1 v2 v3 v4 : Value) :
    ∃ w4, (((((w.setCell ⟨b, 0, none⟩ v0).setCell ⟨b, 1, none⟩ v1).setCell ⟨b, 2, none⟩ v2).setCell ⟨b, 3, none⟩ v3).setCell ⟨b, 4, none⟩ v4) = w4 ∧ w4.heap[b]? = some (.cells #[v0, v1, v2, v3, v4] t (0, 0)) ∧ w4.heap.size = w.heap.size ∧
      (∀ k, k ≠ b → w4.heap[k]? = w.heap[k]?) ∧ (∀ B w0, Below B w0 w → B ≤ b → Below B w0 w4) := by
  refine ⟨_, rfl, ?_, by simp, fun k hk => ?_, fun B w0 hb hB => ?_⟩
  · have := blk_set (blk_set (blk_set (blk_set (blk_set h 0 v0) 1 v1) 2 v2) 3 v3) 4 v4
    simpa using this
  · iterate 5 (rw [Below.heap_setCell _ _ _ k hk])
  · iterate 5 (refine Below.setCell ?_ hB _)
    exact hb
theorem OwnL.slice' {w : World} {base : Nat} {a : Option Addr} {n c : Nat} {xs : List (Int × Int)} (h : OwnL tBal w base (.slice a n c) xs) : Sl tBal w (fun _ => True) a xs := by
  obtain ⟨a', c', he, _, _, hs⟩ := OwnL.slice h
  injection he with h1
  rw [h1]
  exact hs
theorem own_set {w w' : World} {base : Nat} {v : Value} {xs : List (Int × Int)} (h : OwnL tBal w base v xs) (hb : ∀ k, v.ownBlock = some k → w'.heap[k]? = w.heap[k]?) : OwnL tBal w' base v xs := by
  obtain ⟨css, h1, h2, h3, h4⟩ := h
  refine ⟨css, ⟨h1.1, ?_⟩, h2, h3, fun i c x hi hx => ?_⟩
  · rcases h1.2 with ⟨rfl, h0⟩ | ⟨g, cap, cur, rfl, hb', hc, hn, hm, hcs, ht⟩
    · exact .inl ⟨rfl, h0⟩
    · exact .inr ⟨g, cap, cur, rfl, hb', (hb g rfl).trans hc, hn, hm, hcs, ht⟩
  · obtain ⟨rfl, g1, g2⟩ := bal_inv (h4 i c x hi hx)
    exact bal_mk x g1 g2
theorem sl_one1 (x : Int) (b : Nat) (W : World) (hb : W.heap[b]? = some (.cells #[.int .i64 x] 3 (0, 0))) (h : I64 x) : Sl tInt W (fun _ => True) (some ⟨b, 0, none⟩) [x] := sl_oneI hb trivial h

end Go.Proofs.YtbgkladgeijgdaaGreat


/- income.Make: the statement of an entity. -/
set_option linter.unusedVariables false
set_option linter.unusedSimpArgs false
namespace Go.Proofs.YtbgkladgeijgdaaGreat
open Go.RowKit Go.Maps Go.Deep

/-- earned, spent, left; the error -/
def incM (r : List Ac) (J : List Jn) (e f t : Int) : (Int × Int × Int) × Int := if (balT J e f t).2 != 0 then ((0, 0, 0), (balT J e f t).2) else incR r (balT J e f t).1
theorem balT_cases (J : List Jn) (e f t : Int) : balT J e f t = ([], 1) ∨ balT J e f t = ([], 2) ∨ (rightB e f t = true ∧ (accR J e f t).all (fun x => fitsB x.2) = true ∧ balT J e f t = (accR J e f t, 0)) := by
  unfold balT
  cases h1 : rightB e f t
  · exact .inl rfl
  · cases h2 : (accR J e f t).all (fun x => fitsB x.2)
    · exact .inr (.inl rfl)
    · exact .inr (.inr ⟨rfl, rfl, rfl⟩)
theorem balT_fit {J : List Jn} {e f t : Int} : ∀ x ∈ (balT J e f t).1, fitsB x.2 = true := by
  rcases balT_cases J e f t with h | h | ⟨_, h2, h⟩
  · rw [h]; simp
  · rw [h]; simp
  · rw [h]
    simpa [List.all_eq_true] using h2
theorem balT_err (J : List Jn) (e f t : Int) : (balT J e f t).2 = 0 ∨ (balT J e f t).2 = 1 ∨ (balT J e f t).2 = 2 := by
  rcases balT_cases J e f t with h | h | ⟨_, _, h⟩ <;> rw [h] <;> simp
theorem balT_len {J : List Jn} (hg : GoodJ J) (hl : J.length ≤ 100) (e f t : Int) : (balT J e f t).1.length ≤ 800 := by
  rcases balT_cases J e f t with h | h | ⟨_, _, h⟩
  · rw [h]; simp
  · rw [h]; simp
  · rw [h]
    unfold accR
    refine Nat.le_trans (tellS_len _) (Nat.le_trans (accS_len _ _) ?_)
    have h1 := flat8 (l := J.filter (cnt e f t)) (fun x hx => hg x (List.mem_filter.1 hx).1)
    have h2 := List.length_filter_le (cnt e f t) J
    unfold linesOf
    simp only [List.length_nil]
    omega
theorem incM_is {r : List Ac} {J : List Jn} {e f t : Int} {l : List (Int × Int)} {er : Int} (h : balT J e f t = (l, er)) : incM r J e f t = if er != 0 then ((0, 0, 0), er) else incR r l := by
  unfold incM
  rw [h]

/-- what Make tells: the numbers, the error -/
def IncQ (w : World) (r : List Ac) (J : List Jn) (e f t : Int) (u : (Int × Int × Int) × Int) (en : Ending) (w' : World) : Prop :=
  ∃ v1 v2, en = .returned (.tuple #[.agg #[v1, v2, .int .i64 u.1.1, .int .i64 u.1.2.1, .int .i64 u.1.2.2], .int .i64 u.2]) ∧
    (u.2 = 0 → OwnL tBal w' w.heap.size v1 (incI r (balT J e f t).1) ∧ OwnL tBal w' w.heap.size v2 (incO r (balT J e f t).1) ∧ (v1.ownBlock = none ∨ v1.ownBlock ≠ v2.ownBlock)) ∧ (u.2 ≠ 0 → v1 = .slice none 0 0 ∧ v2 = .slice none 0 0) ∧ Below w.heap.size w w'

end Go.Proofs.YtbgkladgeijgdaaGreat


/- sheet: the first month of a year, sums kept, what some months came to. -/
set_option linter.unusedVariables false
set_option linter.unusedSimpArgs false
namespace Go.Proofs.YtbgkladgeijgdaaGreat
open Go.RowKit Go.Maps Go.Deep

def janOf (p : Int) : Int := p - p % 12
/-- what was there is as it was -/
def SM (w0 w : World) : Prop := Below w0.heap.size w0 w
theorem SM.drew {w0 w : World} (h : SM w0 w) : SM w0 w.drew := Below.drew h
theorem SM.call {w0 w w' : World} (h : SM w0 w) (hb : Below w.heap.size w w') : SM w0 w' := belows_then h h.size hb
theorem SM.alloc {w0 w : World} (h : SM w0 w) (o : Obj) : SM w0 (w.alloc o) := Below.alloc h h.size o
theorem SM.set {w0 w : World} (h : SM w0 w) {p : Addr} (hp : w0.heap.size ≤ p.block) (u : Value) : SM w0 (w.setCell p u) := Below.setCell h hp u
theorem SM.le {w0 w : World} (h : SM w0 w) : w0.heap.size ≤ w.heap.size := h.size
theorem SM.net {w0 w : World} {M t : Nat} {v0 v1 v2 c3 c4 c5 c6 c7 c8 c9 c10 c11 c12 c13 : Value} (hM : w0.heap[M]? = some (.cells #[v0, v1, v2, c3, c4, c5, c6, c7, c8, c9, c10, c11, c12, c13] t (0, 0))) (h : SM w0 w) :
    SM w0 w ∧ w.cell? ⟨M, 0, none⟩ = some v0 ∧ w.cell? ⟨M, 1, none⟩ = some v1 ∧ w.cell? ⟨M, 2, none⟩ = some v2 := by
  have hc := blk_cells (blk_below hM h)
  exact ⟨h, hc 0, hc 1, hc 2⟩
theorem incQ_slices {w w' : World} {r : List Ac} {J : List Jn} {e f t : Int} {u : (Int × Int × Int) × Int} {en : Ending} (h : IncQ w r J e f t u en w') : ∃ p1 n1 q1 p2 n2 q2, en = .returned (.tuple #[.agg #[.slice p1 n1 q1, .slice p2 n2 q2, .int .i64 u.1.1, .int .i64 u.1.2.1, .int .i64 u.1.2.2], .int .i64 u.2]) ∧ Below w.heap.size w w' := by
  obtain ⟨v1, v2, rfl, h0, h1, hb⟩ := h
  have hv1 : ∃ a n c, v1 = .slice a n c := by
    by_cases h : u.2 = 0
    · obtain ⟨a, c, e1, _⟩ := (h0 h).1.slice; exact ⟨_, _, _, e1⟩
    · exact ⟨_, _, _, (h1 h).1⟩
  have hv2 : ∃ a n c, v2 = .slice a n c := by
    by_cases h : u.2 = 0
    · obtain ⟨a, c, e1, _⟩ := (h0 h).2.1.slice; exact ⟨_, _, _, e1⟩
    · exact ⟨_, _, _, (h1 h).2⟩
  obtain ⟨p1, n1, q1, rfl⟩ := hv1
  obtain ⟨p2, n2, q2, rfl⟩ := hv2
  exact ⟨p1, n1, q1, p2, n2, q2, rfl, hb⟩

end Go.Proofs.YtbgkladgeijgdaaGreat


/- sheet: the maker's steps: all balances, what is owned. -/
set_option linter.unusedVariables false
set_option linter.unusedSimpArgs false
namespace Go.Proofs.YtbgkladgeijgdaaGreat
open Go.RowKit Go.Maps Go.Deep
variable {tb : Obj}

abbrev KLs := List (Value × List (Int × Int))
theorem SM.at' {w0 w : World} {M t : Nat} {cs : Array Value} (hM : w0.heap[M]? = some (.cells cs t (0, 0))) (h : SM w0 w) (o : Nat) {v : Value} (hv : cs[o]? = some v) : w.cell? ⟨M, o, none⟩ = some v := by
  rw [blk_cells (blk_below hM h), hv]

end Go.Proofs.YtbgkladgeijgdaaGreat


/- fx: Check, rate, Rate. -/
set_option linter.unusedVariables false
set_option linter.unusedSimpArgs false
namespace Go.Proofs.YtbgkladgeijgdaaGreat
open Go.RowKit Go.Maps Go.Deep

abbrev rtsV (x y z : Int) : Value := .agg #[.int .i64 x, .int .i64 y, .int .i64 z]
set_option maxRecDepth 100000 in
theorem closing_is (x y z : Int) (w : World) : Calls Tryz.prog 84 #[rtsV x y z] w fun e w' => e = .returned (.int .i64 x) ∧ Below w.heap.size w w' := by
  have HB := Lib.hid ((Below.refl w.heap.size w).alloc (Nat.le_refl _) (.cells #[.int .i64 x, .int .i64 y, .int .i64 z] 65))
  have hc := blk_cells (blk_new w (.cells #[.int .i64 x, .int .i64 y, .int .i64 z] 65))
  go_enter Tryz.func84, Tryz.ntmps84
  go_wp2_with fail
  go_ret
  exact ⟨rfl, HB.out⟩
set_option maxRecDepth 100000 in
theorem average_is (x y z : Int) (w : World) : Calls Tryz.prog 85 #[rtsV x y z] w fun e w' => e = .returned (.int .i64 y) ∧ Below w.heap.size w w' := by
  have HB := Lib.hid ((Below.refl w.heap.size w).alloc (Nat.le_refl _) (.cells #[.int .i64 x, .int .i64 y, .int .i64 z] 65))
  have hc := blk_cells (blk_new w (.cells #[.int .i64 x, .int .i64 y, .int .i64 z] 65))
  go_enter Tryz.func85, Tryz.ntmps85
  go_wp2_with fail
  go_ret
  exact ⟨rfl, HB.out⟩
set_option maxRecDepth 100000 in
theorem old_is (x y z : Int) (w : World) : Calls Tryz.prog 86 #[rtsV x y z] w fun e w' => e = .returned (.int .i64 z) ∧ Below w.heap.size w w' := by
  have HB := Lib.hid ((Below.refl w.heap.size w).alloc (Nat.le_refl _) (.cells #[.int .i64 x, .int .i64 y, .int .i64 z] 65))
  have hc := blk_cells (blk_new w (.cells #[.int .i64 x, .int .i64 y, .int .i64 z] 65))
  go_enter Tryz.func86, Tryz.ntmps86
  go_wp2_with fail
  go_ret
  exact ⟨rfl, HB.out⟩
def rtsE (x y z : Int) : Int := if rateB x && (rateB y && rateB z) then 0 else 1
def rateF (k : Int) : Nat := if k == 4 || k == 5 then 85 else if k == 3 then 86 else 84
set_option maxRecDepth 100000 in
theorem rate_is (k : Int) (w : World) : Calls Tryz.prog 153 #[.int .i64 k] w fun e w' => e = .returned (.func (.func (rateF k)) #[] #[]) ∧ w' = w := by
  unfold rateF
  by_cases h4 : k = 4
  · subst h4
    go_enter Tryz.func153, Tryz.ntmps153
    go_wp2_with fail
    go_ret
    exact ⟨rfl, rfl⟩
  · by_cases h5 : k = 5
    · subst h5
      go_enter Tryz.func153, Tryz.ntmps153
      go_wp2_with fail
      go_ret
      exact ⟨rfl, rfl⟩
    · by_cases h3 : k = 3
      · subst h3
        go_enter Tryz.func153, Tryz.ntmps153
        go_wp2_with fail
        go_ret
        exact ⟨rfl, rfl⟩
      · have e4 : (k == 4) = false := by simpa using h4
        have e5 : (k == 5) = false := by simpa using h5
        have e3 : (k == 3) = false := by simpa using h3
        rw [e4, e5, e3]
        go_enter Tryz.func153, Tryz.ntmps153
        go_wp2_with fail
        go_ret
        exact ⟨rfl, rfl⟩
set_option maxHeartbeats 4000000 in
set_option maxRecDepth 100000 in
theorem fxCheck_any (x y z : Int) (w : World) : Calls Tryz.prog 25 #[rtsV x y z] w fun e w' => e = .returned (.int .i64 (rtsE x y z)) ∧ Below w.heap.size w w' := by
  have HBX := Lib.hid (((Below.refl w.heap.size w).alloc (Nat.le_refl _) (.cells #[.int .i64 x, .int .i64 y, .int .i64 z] 65)))
  have HR := Lib.hid (blk_new w (.cells #[.int .i64 x, .int .i64 y, .int .i64 z] 65))
  have HC1 := Lib.hid (closing_is x y z)
  have HC2 := Lib.hid (average_is x y z)
  have HC3 := Lib.hid (old_is x y z)
  have hcx : x < 1 ∨ 1 ≤ x ∧ (1000000000 < x ∨ x ≤ 1000000000) := by omega
  have hcy : y < 1 ∨ 1 ≤ y ∧ (1000000000 < y ∨ y ≤ 1000000000) := by omega
  have hcz : z < 1 ∨ 1 ≤ z ∧ (1000000000 < z ∨ z ≤ 1000000000) := by omega
  generalize hE : rtsE x y z = er
  have HE1 : Hid (¬ ((1 ≤ x ∧ x ≤ 1000000000) ∧ (1 ≤ y ∧ y ≤ 1000000000) ∧ (1 ≤ z ∧ z ≤ 1000000000)) → er = 1) := Lib.hid (fun h => by rw [← hE]; unfold rtsE rateB; rw [if_neg (by simpa using h)])
  have HE0 : Hid (((1 ≤ x ∧ x ≤ 1000000000) ∧ (1 ≤ y ∧ y ≤ 1000000000) ∧ (1 ≤ z ∧ z ≤ 1000000000)) → er = 0) := Lib.hid (fun h => by rw [← hE]; unfold rtsE rateB; rw [if_pos (by simpa using h)])
  clear hE
  go_enter Tryz.func25, Tryz.ntmps25
  go_wp2_with fail
  refine abs_world (S := fun wx => wx.heap[w.heap.size]? = some (.cells #[.int .i64 x, .int .i64 y, .int .i64 z] 65 (0, 0)) ∧ wx.heap[w.heap.size + 1]? = some (.cells #[.func (.func 84) #[] #[], .func (.func 85) #[] #[], .func (.func 86) #[] #[]] 137 (0, 0)) ∧ Below w.heap.size w wx) ?_ ⟨?_, ?_, ?_⟩
  rotate_left
  · exact blk_alloc HR.out _
  · have := blk_new (w.alloc (.cells #[.int .i64 x, .int .i64 y, .int .i64 z] 65)) (.cells #[.func (.func 84) #[] #[], .func (.func 85) #[] #[], .func (.func 86) #[] #[]] 137)
    simpa using this
  · exact HBX.out.alloc (by simp) _
  rintro wx ⟨hr, ht, hb⟩
  have HR0 := Lib.hid hr
  have HT0 := Lib.hid ht
  have HB0 := Lib.hid hb
  clear hr ht hb HR HBX
  have hct := blk_cells HT0.out
  have hcr := blk_cells HR0.out
  refine wp_loop_rounds 4 ?_
  rw [rounds_succ]
  go_wp2_with fail
  refine (HC1.out _).mono ?_
  rintro en w1 ⟨rfl, hb⟩
  have HT1 := Lib.hid (blk_below HT0.out hb)
  have HR1 := Lib.hid (blk_below HR0.out hb)
  have HB1 := Lib.hid (belows_then HB0.out HB0.out.size hb)
  clear hb hct hcr
  have hct := blk_cells HT1.out
  have hcr := blk_cells HR1.out
  rcases hcx with hv | ⟨hv, hv2⟩
  · have HG := Lib.hid (HE1.out (by omega))
    go_wp2_with fail
    go_ret
    exact ⟨by rw [HG.out]; rfl, HB1.out⟩
  rcases hv2 with hv2 | hv2
  · have HG := Lib.hid (HE1.out (by omega))
    go_wp2_with fail
    go_ret
    exact ⟨by rw [HG.out]; rfl, HB1.out⟩
  have HV1 := Lib.hid (show 1 ≤ x ∧ x ≤ 1000000000 from ⟨hv, hv2⟩)
  go_wp2_with fail
  clear hv hv2
  rw [rounds_succ]
  go_wp2_with fail
  refine (HC2.out _).mono ?_
  rintro en w2 ⟨rfl, hb⟩
  have HT2 := Lib.hid (blk_below HT1.out hb)
  have HR2 := Lib.hid (blk_below HR1.out hb)
  have HB2 := Lib.hid (belows_then HB1.out HB1.out.size hb)
  clear hb hct hcr
  have hct := blk_cells HT2.out
  have hcr := blk_cells HR2.out
  rcases hcy with hv | ⟨hv, hv2⟩
  · have HG := Lib.hid (HE1.out (by omega))
    go_wp2_with fail
    go_ret
    exact ⟨by rw [HG.out]; rfl, HB2.out⟩
  rcases hv2 with hv2 | hv2
  · have HG := Lib.hid (HE1.out (by omega))
    go_wp2_with fail
    go_ret
    exact ⟨by rw [HG.out]; rfl, HB2.out⟩
  have HV2 := Lib.hid (show 1 ≤ y ∧ y ≤ 1000000000 from ⟨hv, hv2⟩)
  go_wp2_with fail
  clear hv hv2
  rw [rounds_succ]
  go_wp2_with fail
  refine (HC3.out _).mono ?_
  rintro en w3 ⟨rfl, hb⟩
  have HT3 := Lib.hid (blk_below HT2.out hb)
  have HR3 := Lib.hid (blk_below HR2.out hb)
  have HB3 := Lib.hid (belows_then HB2.out HB2.out.size hb)
  clear hb hct hcr
  have hct := blk_cells HT3.out
  have hcr := blk_cells HR3.out
  rcases hcz with hv | ⟨hv, hv2⟩
  · have HG := Lib.hid (HE1.out (by omega))
    go_wp2_with fail
    go_ret
    exact ⟨by rw [HG.out]; rfl, HB3.out⟩
  rcases hv2 with hv2 | hv2
  · have HG := Lib.hid (HE1.out (by omega))
    go_wp2_with fail
    go_ret
    exact ⟨by rw [HG.out]; rfl, HB3.out⟩
  have HV3 := Lib.hid (show 1 ≤ z ∧ z ≤ 1000000000 from ⟨hv, hv2⟩)
  go_wp2_with fail
  clear hv hv2
  rw [rounds_succ]
  go_wp2_with fail
  go_ret
  exact ⟨by rw [HE0.out ⟨HV1.out, HV2.out, HV3.out⟩]; rfl, HB3.out⟩
theorem rateF_is (x y z k : Int) (w : World) : Calls Tryz.prog (rateF k) #[rtsV x y z] w fun e w' => e = .returned (.int .i64 (if k == 4 || k == 5 then y else if k == 3 then z else x)) ∧ Below w.heap.size w w' := by
  unfold rateF
  by_cases h : (k == 4 || k == 5) = true
  · rw [if_pos h, if_pos h]
    exact average_is x y z w
  · rw [if_neg h, if_neg h]
    by_cases h3 : (k == 3) = true
    · rw [if_pos h3, if_pos h3]
      exact old_is x y z w
    · rw [if_neg h3, if_neg h3]
      exact closing_is x y z w
set_option maxHeartbeats 4000000 in
set_option maxRecDepth 100000 in
theorem fxRate_any (x y z k : Int) (w : World) : Calls Tryz.prog 129 #[rtsV x y z, .int .i64 k] w fun e w' => e = .returned (.int .i64 (if k == 4 || k == 5 then y else if k == 3 then z else x)) ∧ Below w.heap.size w w' := by
  have HC := Lib.hid (rateF_is x y z k)
  have HRT := Lib.hid (rate_is k)
  have hF : rateF k = 84 ∨ rateF k = 85 ∨ rateF k = 86 := by
    unfold rateF
    split
    · exact .inr (.inl rfl)
    · split
      · exact .inr (.inr rfl)
      · exact .inl rfl
  generalize rateF k = F at HC HRT hF
  generalize (if k == 4 || k == 5 then y else if k == 3 then z else x) = v at HC ⊢
  rcases hF with rfl | rfl | rfl
  all_goals
    go_enter Tryz.func129, Tryz.ntmps129
    go_wp2_with fail
    refine abs_world (S := fun wx => wx.heap[w.heap.size]? = some (.cells #[.int .i64 x, .int .i64 y, .int .i64 z] 65 (0, 0)) ∧ Below w.heap.size w wx) ?_ ⟨blk_new w _, (Below.refl w.heap.size w).alloc (Nat.le_refl _) _⟩
    rintro wx ⟨hx, hbx⟩
    have HX := Lib.hid hx
    have HBX := Lib.hid hbx
    clear hx hbx
    generalize w.heap.size = b at HX ⊢
    have hS : SM wx wx := Below.refl _ _
    have KS : Hid (∀ W, SM wx W → (W.cell? ⟨b, 0, none⟩ = some (.int .i64 x) ∧ W.cell? ⟨b, 1, none⟩ = some (.int .i64 y) ∧ W.cell? ⟨b, 2, none⟩ = some (.int .i64 z))) := Lib.hid (fun W h => ⟨SM.at' HX.out h 0 rfl, SM.at' HX.out h 1 rfl, SM.at' HX.out h 2 rfl⟩)
    go_region_held3 (fun w' => w'.cell? ⟨b, 0, none⟩ = some (.int .i64 x) ∧ w'.cell? ⟨b, 1, none⟩ = some (.int .i64 y) ∧ w'.cell? ⟨b, 2, none⟩ = some (.int .i64 z)) (first | with_reducible exact KS.out _ HB1.out | with_reducible exact KS.out _ (SM.drew hS)) (first | (refine (HRT.out _).mono ?_; rintro en w1 ⟨rfl, rfl⟩) | (refine (HC.out _).mono ?_; rintro en w1 ⟨rfl, hb⟩; have HB1 : Hid (SM wx w1) := Lib.hid (SM.call (SM.drew hS) hb); clear hb))
    go_wp2_with fail
    go_ret
    exact ⟨rfl, belows_then HBX.out HBX.out.size HB1.out⟩
end Go.Proofs.YtbgkladgeijgdaaGreat
