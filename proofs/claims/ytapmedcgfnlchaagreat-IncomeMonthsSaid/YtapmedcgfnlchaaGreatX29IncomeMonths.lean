/- income.Make: the statement of an entity. -/
import Derived.Test.YtapmedcgfnlchaaGreatX27IncomeMonths
import Derived.Test.YtapmedcgfnlchaaGreatX20IncomeMonths
set_option linter.unusedVariables false
set_option linter.unusedSimpArgs false
namespace Go.Proofs.YtapmedcgfnlchaaGreat
open Go.RowKit Go.Maps Go.Deep

/-- earned, spent, left; the error -/
def incM (r : List Ac) (J : List Jn) (e f t : Int) : (Int × Int × Int) × Int := if (balT J e f t).2 != 0 then ((0, 0, 0), (balT J e f t).2) else incR r (balT J e f t).1
theorem balT_cases (J : List Jn) (e f t : Int) : balT J e f t = ([], 1) ∨ balT J e f t = ([], 2) ∨ (rightB e f t = true ∧ (accR J e f t).all (fun x => fitsB x.2) = true ∧ balT J e f t = (accR J e f t, 0)) := by
  unfold balT
  cases h1 : rightB e f t
  · exact .inl rfl
  · cases h2 : (accR J e f t).all (fun x => fitsB x.2)
    · exact .inr (.inl rfl)
    · exact .inr (.inr ⟨rfl, rfl, rfl⟩)
theorem balT_fit {J : List Jn} {e f t : Int} : ∀ x ∈ (balT J e f t).1, fitsB x.2 = true := by
  rcases balT_cases J e f t with h | h | ⟨_, h2, h⟩
  · rw [h]; simp
  · rw [h]; simp
  · rw [h]
    simpa [List.all_eq_true] using h2
theorem balT_err (J : List Jn) (e f t : Int) : (balT J e f t).2 = 0 ∨ (balT J e f t).2 = 1 ∨ (balT J e f t).2 = 2 := by
  rcases balT_cases J e f t with h | h | ⟨_, _, h⟩ <;> rw [h] <;> simp
theorem balT_len {J : List Jn} (hg : GoodJ J) (hl : J.length ≤ 100) (e f t : Int) : (balT J e f t).1.length ≤ 800 := by
  rcases balT_cases J e f t with h | h | ⟨_, _, h⟩
  · rw [h]; simp
  · rw [h]; simp
  · rw [h]
    unfold accR
    refine Nat.le_trans (tellS_len _) (Nat.le_trans (accS_len _ _) ?_)
    have h1 := flat8 (l := J.filter (cnt e f t)) (fun x hx => hg x (List.mem_filter.1 hx).1)
    have h2 := List.length_filter_le (cnt e f t) J
    unfold linesOf
    simp only [List.length_nil]
    omega
theorem incM_is {r : List Ac} {J : List Jn} {e f t : Int} {l : List (Int × Int)} {er : Int} (h : balT J e f t = (l, er)) : incM r J e f t = if er != 0 then ((0, 0, 0), er) else incR r l := by
  unfold incM
  rw [h]

/-- what Make tells: the numbers, the error -/
def IncQ (w : World) (r : List Ac) (J : List Jn) (e f t : Int) (u : (Int × Int × Int) × Int) (en : Ending) (w' : World) : Prop :=
  ∃ v1 v2, en = .returned (.tuple #[.agg #[v1, v2, .int .i64 u.1.1, .int .i64 u.1.2.1, .int .i64 u.1.2.2], .int .i64 u.2]) ∧
    (u.2 = 0 → OwnL tBal w' w.heap.size v1 (incI r (balT J e f t).1) ∧ OwnL tBal w' w.heap.size v2 (incO r (balT J e f t).1)) ∧ (u.2 ≠ 0 → v1 = .slice none 0 0 ∧ v2 = .slice none 0 0) ∧ Below w.heap.size w w'

set_option maxHeartbeats 8000000 in
set_option maxRecDepth 100000 in
theorem iMake_any {w : World} {c g : Nat} {mb : Option Nat} {r : List Ac} {a : Option Addr} {cap : Nat} {J : List Jn} {F : Nat → Prop} (hc : ChartAt w c mb r) (hbk : BookAt w g a cap J F) (hl : J.length ≤ 100) (hgood : GoodJ J) (e f t : Int) (hf : I64 f) (ht : I64 t) {u : (Int × Int × Int) × Int} (hu : incM r J e f t = u) :
    Calls Tryz.prog 11 #[.pointer (some ⟨c, 0, none⟩), .pointer (some ⟨g, 0, none⟩), tofv e f t] w (IncQ w r J e f t u) := by
  have hb2 := ((Below.refl w.heap.size w).alloc (Nat.le_refl _) (.cells #[.int .i64 e, .int .i64 f, .int .i64 t] 31)).alloc (by simp) (.cells #[.slice none 0 0, .slice none 0 0, .int .i64 0, .int .i64 0, .int .i64 0] 38)
  have HZ : Hid (((w.alloc (.cells #[.int .i64 e, .int .i64 f, .int .i64 t] 31)).alloc (.cells #[.slice none 0 0, .slice none 0 0, .int .i64 0, .int .i64 0, .int .i64 0] 38)).heap[w.heap.size + 1]? = some (.cells #[.slice none 0 0, .slice none 0 0, .int .i64 0, .int .i64 0, .int .i64 0] 38 (0, 0))) := Lib.hid (by have := blk_new (w.alloc (.cells #[.int .i64 e, .int .i64 f, .int .i64 t] 31)) (.cells #[.slice none 0 0, .slice none 0 0, .int .i64 0, .int .i64 0, .int .i64 0] 38); simpa using this)
  have HC := Lib.hid hc
  have HB := Lib.hid hb2
  have HBAL := Lib.hid (balances_any (hbk.below hb2) (by omega) hgood e f t hf ht)
  have HU := Lib.hid hu
  have hbl := balT_len hgood hl e f t
  have HFIT := Lib.hid (balT_fit (J := J) (e := e) (f := f) (t := t))
  have HERR := Lib.hid (balT_err J e f t)
  clear hc hbk hb2 hf ht hu
  obtain ⟨l, er, hbt⟩ : ∃ l er, balT J e f t = (l, er) := ⟨_, _, rfl⟩
  have HBT := Lib.hid hbt
  rw [hbt] at HBAL hbl HFIT HERR
  clear hbt
  simp only at hbl HFIT HERR
  go_enter Tryz.func11, Tryz.ntmps11
  go_wp2_with fail
  refine HBAL.out.mono ?_
  rintro en w2 ⟨v, rfl, ho, hb⟩
  simp only at ho
  have HO := Lib.hid ho
  have HB2 := Lib.hid (belows_then HB.out HB.out.size hb)
  have HZ2 := Lib.hid (blk_below HZ.out hb)
  obtain ⟨la, lc, rfl, _, _, hls⟩ := ho.slice
  have HLS := Lib.hid hls
  have hcz := blk_cells HZ2.out
  have hfz := blk_frz HZ2.out
  have hlz := blk_lt HZ2.out
  clear ho hb hls
  have hcs : (er = 0) ∨ (er != 0) = true ∧ er ≠ 0 := by rcases HERR.out with h | h | h <;> simp [h]
  rcases hcs with rfl | ⟨hne, hne'⟩
  · have HIM : Hid (incR r l = u) := Lib.hid (by rw [← HU.out, incM_is HBT.out]; rfl)
    go_wp2_with fail
    refine (iOf_any (HC.out.below HB2.out) l la lc HLS.out (by omega) HFIT.out HIM.out).mono ?_
    rintro en w3 ⟨v1, v2, rfl, h0, h1, hb⟩
    have HB3 := Lib.hid (belows_then HB2.out HB2.out.size hb)
    have HZ3 := Lib.hid (blk_below HZ2.out hb)
    have HH0 := Lib.hid (fun h => And.intro ((h0 h).1.mono HB2.out.size) ((h0 h).2.mono HB2.out.size))
    have HH1 := Lib.hid h1
    have hv1 : ∃ a n c, v1 = .slice a n c := by
      by_cases h : u.2 = 0
      · obtain ⟨a, c, e1, _⟩ := (h0 h).1.slice; exact ⟨_, _, _, e1⟩
      · exact ⟨_, _, _, (h1 h).1⟩
    have hv2 : ∃ a n c, v2 = .slice a n c := by
      by_cases h : u.2 = 0
      · obtain ⟨a, c, e1, _⟩ := (h0 h).2.slice; exact ⟨_, _, _, e1⟩
      · exact ⟨_, _, _, (h1 h).2⟩
    obtain ⟨p1, n1, q1, rfl⟩ := hv1
    obtain ⟨p2, n2, q2, rfl⟩ := hv2
    clear hb h0 h1 hcz hfz hlz
    have hcz := blk_cells HZ3.out
    have hfz := blk_frz HZ3.out
    have hlz := blk_lt HZ3.out
    go_wp2_with fail
    obtain ⟨w9, hw9, h9, hs9, hk9, hb9⟩ := five w3 (w.heap.size + 1) HZ3.out (.slice p1 n1 q1) (.slice p2 n2 q2) (.int .i64 u.1.1) (.int .i64 u.1.2.1) (.int .i64 u.1.2.2)
    rw [hw9]
    clear hw9
    refine bodyPost_ret (v := .tuple #[.agg #[.slice p1 n1 q1, .slice p2 n2 q2, .int .i64 u.1.1, .int .i64 u.1.2.1, .int .i64 u.1.2.2], .int .i64 u.2]) (results_row_tmp (fn := Tryz.f11) (p := 6) (ty := 38) rfl _ _ (w.heap.size + 1) 38 _ (0, 0) _ rfl h9 Tryz.underlying38 rfl (by kernel_rfl)) rfl ?_
    refine ⟨_, _, rfl, fun h => ?_, fun h => HH1.out h, hb9 _ _ HB3.out (by omega)⟩
    obtain ⟨g1, g2⟩ := HH0.out h
    have n1 := g1.ne HZ3.out (by decide)
    have n2 := g2.ne HZ3.out (by decide)
    rw [HBT.out]
    exact ⟨own_set g1 (fun k hk => hk9 k (fun e => n1 (by rw [hk, e]))), own_set g2 (fun k hk => hk9 k (fun e => n2 (by rw [hk, e])))⟩
  · have HIM : Hid (u = ((0, 0, 0), er)) := Lib.hid (by rw [← HU.out, incM_is HBT.out, hne]; rfl)
    go_wp2_with fail
    obtain ⟨w9, hw9, h9, hs9, hk9, hb9⟩ := five w2 (w.heap.size + 1) HZ2.out (.slice none 0 0) (.slice none 0 0) (.int .i64 0) (.int .i64 0) (.int .i64 0)
    rw [hw9]
    clear hw9
    refine bodyPost_ret (v := .tuple #[.agg #[.slice none 0 0, .slice none 0 0, .int .i64 0, .int .i64 0, .int .i64 0], .int .i64 er]) (results_row_tmp (fn := Tryz.f11) (p := 6) (ty := 38) rfl _ _ (w.heap.size + 1) 38 _ (0, 0) _ rfl h9 Tryz.underlying38 rfl (by kernel_rfl)) rfl ?_
    rw [HIM.out]
    exact ⟨_, _, rfl, fun h => absurd h hne', fun _ => ⟨rfl, rfl⟩, hb9 _ _ HB2.out (by omega)⟩
end Go.Proofs.YtapmedcgfnlchaaGreat
