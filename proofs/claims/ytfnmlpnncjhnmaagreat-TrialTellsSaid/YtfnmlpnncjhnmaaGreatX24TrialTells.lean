/- income.Make: the statement of an entity. -/
import Derived.Test.YtfnmlpnncjhnmaaGreatX23TrialTells
import Derived.Test.YtfnmlpnncjhnmaaGreatX20TrialTells
set_option linter.unusedVariables false
set_option linter.unusedSimpArgs false
namespace Go.Proofs.YtfnmlpnncjhnmaaGreat
open Go.RowKit Go.Maps Go.Deep

/-- earned, spent, left; the error -/
def incM (r : List Ac) (J : List Jn) (e f t : Int) : (Int × Int × Int) × Int := if (balT J e f t).2 != 0 then ((0, 0, 0), (balT J e f t).2) else incR r (balT J e f t).1
theorem balT_cases (J : List Jn) (e f t : Int) : balT J e f t = ([], 1) ∨ balT J e f t = ([], 2) ∨ (rightB e f t = true ∧ (accR J e f t).all (fun x => fitsB x.2) = true ∧ balT J e f t = (accR J e f t, 0)) := by
  unfold balT
  cases h1 : rightB e f t
  · exact .inl rfl
  · cases h2 : (accR J e f t).all (fun x => fitsB x.2)
    · exact .inr (.inl rfl)
    · exact .inr (.inr ⟨rfl, rfl, rfl⟩)
theorem balT_fit {J : List Jn} {e f t : Int} : ∀ x ∈ (balT J e f t).1, fitsB x.2 = true := by
  rcases balT_cases J e f t with h | h | ⟨_, h2, h⟩
  · rw [h]; simp
  · rw [h]; simp
  · rw [h]
    simpa [List.all_eq_true] using h2
theorem balT_err (J : List Jn) (e f t : Int) : (balT J e f t).2 = 0 ∨ (balT J e f t).2 = 1 ∨ (balT J e f t).2 = 2 := by
  rcases balT_cases J e f t with h | h | ⟨_, _, h⟩ <;> rw [h] <;> simp
theorem balT_len {J : List Jn} (hg : GoodJ J) (hl : J.length ≤ 100) (e f t : Int) : (balT J e f t).1.length ≤ 800 := by
  rcases balT_cases J e f t with h | h | ⟨_, _, h⟩
  · rw [h]; simp
  · rw [h]; simp
  · rw [h]
    unfold accR
    refine Nat.le_trans (tellS_len _) (Nat.le_trans (accS_len _ _) ?_)
    have h1 := flat8 (l := J.filter (cnt e f t)) (fun x hx => hg x (List.mem_filter.1 hx).1)
    have h2 := List.length_filter_le (cnt e f t) J
    unfold linesOf
    simp only [List.length_nil]
    omega
theorem incM_is {r : List Ac} {J : List Jn} {e f t : Int} {l : List (Int × Int)} {er : Int} (h : balT J e f t = (l, er)) : incM r J e f t = if er != 0 then ((0, 0, 0), er) else incR r l := by
  unfold incM
  rw [h]

/-- what Make tells: the numbers, the error -/
def IncQ (w : World) (r : List Ac) (J : List Jn) (e f t : Int) (u : (Int × Int × Int) × Int) (en : Ending) (w' : World) : Prop :=
  ∃ v1 v2, en = .returned (.tuple #[.agg #[v1, v2, .int .i64 u.1.1, .int .i64 u.1.2.1, .int .i64 u.1.2.2], .int .i64 u.2]) ∧
    (u.2 = 0 → OwnL tBal w' w.heap.size v1 (incI r (balT J e f t).1) ∧ OwnL tBal w' w.heap.size v2 (incO r (balT J e f t).1) ∧ (v1.ownBlock = none ∨ v1.ownBlock ≠ v2.ownBlock)) ∧ (u.2 ≠ 0 → v1 = .slice none 0 0 ∧ v2 = .slice none 0 0) ∧ Below w.heap.size w w'

set_option maxHeartbeats 8000000 in
set_option maxRecDepth 100000 in
theorem iMake_any {w : World} {c g : Nat} {mb : Option Nat} {r : List Ac} {a : Option Addr} {cap : Nat} {J : List Jn} {F : Nat → Prop} (hc : ChartAt w c mb r) (hbk : BookAt w g a cap J F) (hl : J.length ≤ 100) (hgood : GoodJ J) (e f t : Int) (hf : I64 f) (ht : I64 t) {u : (Int × Int × Int) × Int} (hu : incM r J e f t = u) :
    Calls Tryz.prog 21 #[.pointer (some ⟨c, 0, none⟩), .pointer (some ⟨g, 0, none⟩), tofv e f t] w (IncQ w r J e f t u) := by
  have hb2 := ((Below.refl w.heap.size w).alloc (Nat.le_refl _) (.cells #[.int .i64 e, .int .i64 f, .int .i64 t] 31)).alloc (by simp) (.cells #[.slice none 0 0, .slice none 0 0, .int .i64 0, .int .i64 0, .int .i64 0] 62)
  have HZ : Hid (((w.alloc (.cells #[.int .i64 e, .int .i64 f, .int .i64 t] 31)).alloc (.cells #[.slice none 0 0, .slice none 0 0, .int .i64 0, .int .i64 0, .int .i64 0] 62)).heap[w.heap.size + 1]? = some (.cells #[.slice none 0 0, .slice none 0 0, .int .i64 0, .int .i64 0, .int .i64 0] 62 (0, 0))) := Lib.hid (by have := blk_new (w.alloc (.cells #[.int .i64 e, .int .i64 f, .int .i64 t] 31)) (.cells #[.slice none 0 0, .slice none 0 0, .int .i64 0, .int .i64 0, .int .i64 0] 62); simpa using this)
  have HC := Lib.hid hc
  have HB := Lib.hid hb2
  have HBAL := Lib.hid (balances_any (hbk.below hb2) (by omega) hgood e f t hf ht)
  have HU := Lib.hid hu
  have hbl := balT_len hgood hl e f t
  have HFIT := Lib.hid (balT_fit (J := J) (e := e) (f := f) (t := t))
  have HERR := Lib.hid (balT_err J e f t)
  clear hc hbk hb2 hf ht hu
  obtain ⟨l, er, hbt⟩ : ∃ l er, balT J e f t = (l, er) := ⟨_, _, rfl⟩
  have HBT := Lib.hid hbt
  rw [hbt] at HBAL hbl HFIT HERR
  clear hbt
  simp only at hbl HFIT HERR
  go_enter Tryz.func21, Tryz.ntmps21
  go_wp2_with fail
  refine HBAL.out.mono ?_
  rintro en w2 ⟨v, rfl, ho, hb⟩
  simp only at ho
  have HO := Lib.hid ho
  have HB2 := Lib.hid (belows_then HB.out HB.out.size hb)
  have HZ2 := Lib.hid (blk_below HZ.out hb)
  obtain ⟨la, lc, rfl, _, _, hls⟩ := ho.slice
  have HLS := Lib.hid hls
  have hcz := blk_cells HZ2.out
  have hfz := blk_frz HZ2.out
  have hlz := blk_lt HZ2.out
  clear ho hb hls
  have hcs : (er = 0) ∨ (er != 0) = true ∧ er ≠ 0 := by rcases HERR.out with h | h | h <;> simp [h]
  rcases hcs with rfl | ⟨hne, hne'⟩
  · have HIM : Hid (incR r l = u) := Lib.hid (by rw [← HU.out, incM_is HBT.out]; rfl)
    go_wp2_with fail
    refine (iOf_any (HC.out.below HB2.out) l la lc HLS.out (by omega) HFIT.out HIM.out).mono ?_
    rintro en w3 ⟨v1, v2, rfl, h0, h1, hb⟩
    have HB3 := Lib.hid (belows_then HB2.out HB2.out.size hb)
    have HZ3 := Lib.hid (blk_below HZ2.out hb)
    have HH0 := Lib.hid (fun h => And.intro ((h0 h).1.mono HB2.out.size) (And.intro ((h0 h).2.1.mono HB2.out.size) (h0 h).2.2))
    have HH1 := Lib.hid h1
    have hv1 : ∃ a n c, v1 = .slice a n c := by
      by_cases h : u.2 = 0
      · obtain ⟨a, c, e1, _⟩ := (h0 h).1.slice; exact ⟨_, _, _, e1⟩
      · exact ⟨_, _, _, (h1 h).1⟩
    have hv2 : ∃ a n c, v2 = .slice a n c := by
      by_cases h : u.2 = 0
      · obtain ⟨a, c, e1, _⟩ := (h0 h).2.1.slice; exact ⟨_, _, _, e1⟩
      · exact ⟨_, _, _, (h1 h).2⟩
    obtain ⟨p1, n1, q1, rfl⟩ := hv1
    obtain ⟨p2, n2, q2, rfl⟩ := hv2
    clear hb h0 h1 hcz hfz hlz
    have hcz := blk_cells HZ3.out
    have hfz := blk_frz HZ3.out
    have hlz := blk_lt HZ3.out
    go_wp2_with fail
    obtain ⟨w9, hw9, h9, hs9, hk9, hb9⟩ := five w3 (w.heap.size + 1) HZ3.out (.slice p1 n1 q1) (.slice p2 n2 q2) (.int .i64 u.1.1) (.int .i64 u.1.2.1) (.int .i64 u.1.2.2)
    rw [hw9]
    clear hw9
    refine bodyPost_ret (v := .tuple #[.agg #[.slice p1 n1 q1, .slice p2 n2 q2, .int .i64 u.1.1, .int .i64 u.1.2.1, .int .i64 u.1.2.2], .int .i64 u.2]) (results_row_tmp (fn := Tryz.f21) (p := 6) (ty := 62) rfl _ _ (w.heap.size + 1) 62 _ (0, 0) _ rfl h9 Tryz.underlying62 rfl (by kernel_rfl)) rfl ?_
    refine ⟨_, _, rfl, fun h => ?_, fun h => HH1.out h, hb9 _ _ HB3.out (by omega)⟩
    obtain ⟨g1, g2, g3⟩ := HH0.out h
    have n1 := g1.ne HZ3.out (by decide)
    have n2 := g2.ne HZ3.out (by decide)
    rw [HBT.out]
    exact ⟨own_set g1 (fun k hk => hk9 k (fun e => n1 (by rw [hk, e]))), own_set g2 (fun k hk => hk9 k (fun e => n2 (by rw [hk, e]))), g3⟩
  · have HIM : Hid (u = ((0, 0, 0), er)) := Lib.hid (by rw [← HU.out, incM_is HBT.out, hne]; rfl)
    go_wp2_with fail
    obtain ⟨w9, hw9, h9, hs9, hk9, hb9⟩ := five w2 (w.heap.size + 1) HZ2.out (.slice none 0 0) (.slice none 0 0) (.int .i64 0) (.int .i64 0) (.int .i64 0)
    rw [hw9]
    clear hw9
    refine bodyPost_ret (v := .tuple #[.agg #[.slice none 0 0, .slice none 0 0, .int .i64 0, .int .i64 0, .int .i64 0], .int .i64 er]) (results_row_tmp (fn := Tryz.f21) (p := 6) (ty := 62) rfl _ _ (w.heap.size + 1) 62 _ (0, 0) _ rfl h9 Tryz.underlying62 rfl (by kernel_rfl)) rfl ?_
    rw [HIM.out]
    exact ⟨_, _, rfl, fun h => absurd h hne', fun _ => ⟨rfl, rfl⟩, hb9 _ _ HB2.out (by omega)⟩
end Go.Proofs.YtfnmlpnncjhnmaaGreat


/- sheet: the first month of a year, sums kept, what some months came to. -/
set_option linter.unusedVariables false
set_option linter.unusedSimpArgs false
namespace Go.Proofs.YtfnmlpnncjhnmaaGreat
open Go.RowKit Go.Maps Go.Deep

set_option maxHeartbeats 2000000 in
theorem month_is (p : Int) (hp : monthOk p = true) (hi : I64 p) (w : World) : Calls Tryz.prog 168 #[.int .i64 p] w fun e w' => e = .returned (.int .i64 (p % 12 + 1)) ∧ Below w.heap.size w w' := by
  have HM := Lib.hid (by have := term_valid1 p w.heap.size (w.alloc (.cells #[.int .i64 p] 3)) (blk_new w _) hi; rw [hp] at this; exact this)
  have hb : 0 ≤ p ∧ p ≤ 1199 := by simpa [monthOk] using hp
  have h1 : p.tmod 12 = p % 12 := Int.tmod_eq_emod_of_nonneg hb.1
  have h2 : wrap64 (p % 12 + 1) = p % 12 + 1 := by unfold wrap64; omega
  have h2' : IntKind.i64.wrap (p % 12 + 1) = p % 12 + 1 := wrap_is (by omega) (by omega)
  clear hp hi
  go_enter Tryz.func168, Tryz.ntmps168
  go_wp2_with fail
  refine HM.out.mono ?_
  rintro en w2 ⟨rfl, hb2⟩
  have HB := Lib.hid (belows_then ((Below.refl w.heap.size w).alloc (Nat.le_refl _) (.cells #[.int .i64 p] 3)) (by simp) hb2)
  clear hb2
  go_wp2_with fail
  go_ret
  exact ⟨by first | rfl | (rw [h2]; rfl) | simp [h2], HB.out⟩

def janOf (p : Int) : Int := p - p % 12
set_option maxHeartbeats 2000000 in
theorem january_is {w : World} {M : Nat} {c0 c1 c2 c4 c5 c6 c7 c8 c9 c10 c11 c12 c13 : Value} (p : Int) (hM : w.heap[M]? = some (.cells #[c0, c1, c2, .int .i64 p, c4, c5, c6, c7, c8, c9, c10, c11, c12, c13] 145 (0, 0))) (hp : monthOk p = true) (hi : I64 p) :
    Calls Tryz.prog 144 #[.pointer (some ⟨M, 0, none⟩)] w fun e w' => e = .returned (.int .i64 (janOf p)) ∧ Below w.heap.size w w' := by
  have hb : 0 ≤ p ∧ p ≤ 1199 := by simpa [monthOk] using hp
  have h2 : IntKind.i64.wrap (p % 12 + 1 - 1) = p % 12 := by rw [wrap_is (by omega) (by omega)]; omega
  have h2b : IntKind.i64.wrap (p % 12) = p % 12 := wrap_is (by omega) (by omega)
  have h3 : IntKind.i64.wrap (p - p % 12) = janOf p := by unfold janOf; exact wrap_is (by omega) (by omega)
  have HM := Lib.hid hM
  have HC := Lib.hid (month_is p hp hi w.drew)
  have hc := blk_cells hM
  have hlt := blk_lt hM
  clear hp hi
  go_enter Tryz.func144, Tryz.ntmps144
  go_wp2_with fail
  go_region_with (go_at_call 168; refine HC.out.mono ?_; rintro e w' ⟨rfl, hb⟩; have hM' := blk_below (w := w.drew) HM.out hb; have hc' := blk_cells hM'; have hl' := blk_lt hM'; clear hM')
  all_goals
    go_wp2_with fail
    go_ret
    exact ⟨by first | rfl | simp [h2, h3], belows_then (Below.drew (Below.refl w.heap.size w)) (Nat.le_refl _) hb⟩

set_option maxHeartbeats 2000000 in
theorem total_any {w : World} {M k t : Nat} {cs : Array Value} (hM : w.heap[M]? = some (.cells cs t (0, 0))) (hk : k < cs.size) (l : List (Int × Int)) (a : Option Addr) (cap : Nat) {F : Nat → Prop} (hs : Sl tBal w F a l) (hl : l.length ≤ 100000) {r : Int × Int} (hr : addM (l.map (·.2)) = r) :
    Calls Tryz.prog 142 #[.pointer (some ⟨M, k, none⟩), .slice a l.length cap] w fun e w' => e = .returned (.int .i64 r.2) ∧ ∃ w1, Below w.heap.size w w1 ∧ w' = w1.setCell ⟨M, k, none⟩ (.int .i64 r.1) := by
  have HC := Lib.hid (tsum_any l a cap w hs hl)
  rw [hr] at HC
  have HM := Lib.hid hM
  clear hs hr hM
  go_enter Tryz.func142, Tryz.ntmps142
  go_wp2_with fail
  refine HC.out.mono ?_
  rintro en w1 ⟨rfl, hb⟩
  have hc : w1.cell? ⟨M, k, none⟩ = some cs[k] := by rw [blk_cells (blk_below HM.out hb)]; simp [hk]
  have hf : w1.frozen? ⟨M, k, none⟩ = false := blk_frz (blk_below HM.out hb) k
  have HB := Lib.hid hb
  clear hb
  go_wp2_with fail
  go_ret
  exact ⟨rfl, w1, HB.out, rfl⟩

/-- what was there is as it was -/
def SM (w0 w : World) : Prop := Below w0.heap.size w0 w
theorem SM.drew {w0 w : World} (h : SM w0 w) : SM w0 w.drew := Below.drew h
theorem SM.call {w0 w w' : World} (h : SM w0 w) (hb : Below w.heap.size w w') : SM w0 w' := belows_then h h.size hb
theorem SM.alloc {w0 w : World} (h : SM w0 w) (o : Obj) : SM w0 (w.alloc o) := Below.alloc h h.size o
theorem SM.set {w0 w : World} (h : SM w0 w) {p : Addr} (hp : w0.heap.size ≤ p.block) (u : Value) : SM w0 (w.setCell p u) := Below.setCell h hp u
theorem SM.le {w0 w : World} (h : SM w0 w) : w0.heap.size ≤ w.heap.size := h.size
theorem SM.net {w0 w : World} {M t : Nat} {v0 v1 v2 c3 c4 c5 c6 c7 c8 c9 c10 c11 c12 c13 : Value} (hM : w0.heap[M]? = some (.cells #[v0, v1, v2, c3, c4, c5, c6, c7, c8, c9, c10, c11, c12, c13] t (0, 0))) (h : SM w0 w) :
    SM w0 w ∧ w.cell? ⟨M, 0, none⟩ = some v0 ∧ w.cell? ⟨M, 1, none⟩ = some v1 ∧ w.cell? ⟨M, 2, none⟩ = some v2 := by
  have hc := blk_cells (blk_below hM h)
  exact ⟨h, hc 0, hc 1, hc 2⟩
theorem incQ_slices {w w' : World} {r : List Ac} {J : List Jn} {e f t : Int} {u : (Int × Int × Int) × Int} {en : Ending} (h : IncQ w r J e f t u en w') : ∃ p1 n1 q1 p2 n2 q2, en = .returned (.tuple #[.agg #[.slice p1 n1 q1, .slice p2 n2 q2, .int .i64 u.1.1, .int .i64 u.1.2.1, .int .i64 u.1.2.2], .int .i64 u.2]) ∧ Below w.heap.size w w' := by
  obtain ⟨v1, v2, rfl, h0, h1, hb⟩ := h
  have hv1 : ∃ a n c, v1 = .slice a n c := by
    by_cases h : u.2 = 0
    · obtain ⟨a, c, e1, _⟩ := (h0 h).1.slice; exact ⟨_, _, _, e1⟩
    · exact ⟨_, _, _, (h1 h).1⟩
  have hv2 : ∃ a n c, v2 = .slice a n c := by
    by_cases h : u.2 = 0
    · obtain ⟨a, c, e1, _⟩ := (h0 h).2.1.slice; exact ⟨_, _, _, e1⟩
    · exact ⟨_, _, _, (h1 h).2⟩
  obtain ⟨p1, n1, q1, rfl⟩ := hv1
  obtain ⟨p2, n2, q2, rfl⟩ := hv2
  exact ⟨p1, n1, q1, p2, n2, q2, rfl, hb⟩

set_option maxHeartbeats 8000000 in
set_option maxRecDepth 100000 in
theorem net_any {w : World} {M k c g : Nat} {e : Int} {c3 c4 c5 c6 c7 c8 c9 c10 c11 c12 c13 : Value} (hM : w.heap[M]? = some (.cells #[.pointer (some ⟨c, 0, none⟩), .pointer (some ⟨g, 0, none⟩), .int .i64 e, c3, c4, c5, c6, c7, c8, c9, c10, c11, c12, c13] 145 (0, 0))) (hk : k < 14)
    {mb : Option Nat} {r : List Ac} {a : Option Addr} {cap : Nat} {J : List Jn} {F : Nat → Prop} (hc : ChartAt w c mb r) (hbk : BookAt w g a cap J F) (hl : J.length ≤ 100) (hgood : GoodJ J) (f t : Int) (hf : I64 f) (ht : I64 t) {u : (Int × Int × Int) × Int} (hu : incM r J e f t = u) :
    Calls Tryz.prog 145 #[.pointer (some ⟨M, 0, none⟩), .pointer (some ⟨M, k, none⟩), .int .i64 f, .int .i64 t] w fun en w' => en = .returned (.int .i64 u.2) ∧ ∃ w1, Below w.heap.size w w1 ∧ w' = w1.setCell ⟨M, k, none⟩ (.int .i64 u.1.2.2) := by
  have HC : Hid (∀ W, Below w.heap.size w W → Calls Tryz.prog 21 #[.pointer (some ⟨c, 0, none⟩), .pointer (some ⟨g, 0, none⟩), tofv e f t] W (IncQ W r J e f t u)) := Lib.hid (fun W hb => iMake_any (hc.below hb) (hbk.below hb) hl hgood e f t hf ht hu)
  have HM := Lib.hid hM
  have hcc := blk_cells hM
  have hlt := blk_lt hM
  clear hc hbk hgood hf ht hu hM
  go_enter Tryz.func145, Tryz.ntmps145
  go_wp2_with fail
  have hS : SM w w := Below.refl _ _
  have HZ0 : Hid ((w.alloc (.cells #[.slice none 0 0, .slice none 0 0, .int .i64 0, .int .i64 0, .int .i64 0] 62)).drew.heap[w.heap.size]? = some (.cells #[.slice none 0 0, .slice none 0 0, .int .i64 0, .int .i64 0, .int .i64 0] 62 (0, 0))) := Lib.hid (blk_new w (.cells #[.slice none 0 0, .slice none 0 0, .int .i64 0, .int .i64 0, .int .i64 0] 62))
  have HZ1 : Hid ((w.drew.alloc (.cells #[.slice none 0 0, .slice none 0 0, .int .i64 0, .int .i64 0, .int .i64 0] 62)).heap[w.heap.size]? = some (.cells #[.slice none 0 0, .slice none 0 0, .int .i64 0, .int .i64 0, .int .i64 0] 62 (0, 0))) := Lib.hid (blk_new w.drew (.cells #[.slice none 0 0, .slice none 0 0, .int .i64 0, .int .i64 0, .int .i64 0] 62))
  go_region_held3 (fun w' => SM w w' ∧ w'.cell? ⟨M, 0, none⟩ = some (.pointer (some ⟨c, 0, none⟩)) ∧ w'.cell? ⟨M, 1, none⟩ = some (.pointer (some ⟨g, 0, none⟩)) ∧ w'.cell? ⟨M, 2, none⟩ = some (.int .i64 e)) (first | with_reducible exact SM.net HM.out (SM.set (SM.set (SM.set (SM.set (SM.set HB1.out (Nat.le_refl _) _) (Nat.le_refl _) _) (Nat.le_refl _) _) (Nat.le_refl _) _) (Nat.le_refl _) _) | with_reducible exact SM.net HM.out (SM.alloc HB1.out _) | with_reducible exact SM.net HM.out HB1.out | with_reducible exact SM.net HM.out (SM.drew (by assumption)) | with_reducible exact SM.net HM.out (SM.alloc (And.left (by assumption)) _) | with_reducible exact SM.net HM.out HB1.out | with_reducible exact SM.net HM.out (SM.alloc HB1.out _) | with_reducible exact SM.net HM.out (SM.set (And.left (by assumption)) (by first | exact Nat.le_refl _ | exact SM.le (And.left (by assumption))) _)) ((go_at_call 21; refine (HC.out _ (And.left (by assumption))).mono ?_; rintro en w1 hq; obtain ⟨p1, n1, q1, p2, n2, q2, rfl, hb⟩ := incQ_slices hq; clear hq; have HB1 : Hid (SM w w1) := Lib.hid (SM.call (And.left (by assumption)) hb); (first | (with_reducible have hZ' := blk_below HZ0.out hb; have hcz := blk_cells hZ'; have hfz := blk_frz hZ'; have hlz := blk_lt hZ'; have HZW := Lib.hid hZ'; clear hZ') | (with_reducible have hZ' := blk_below HZ1.out hb; have hcz := blk_cells hZ'; have hfz := blk_frz hZ'; have hlz := blk_lt hZ'; have HZW := Lib.hid hZ'; clear hZ') | skip); clear hb))
  · have hMB := blk_below HM.out HB1.out
    obtain ⟨w4, hw4⟩ : ∃ w4, w1.alloc (.cells #[.slice p1 n1 q1, .slice p2 n2 q2, .int .i64 u.1.1, .int .i64 u.1.2.1, .int .i64 u.1.2.2] 62) = w4 := ⟨_, rfl⟩
    rw [hw4]
    have hM4 := blk_alloc hMB (.cells #[.slice p1 n1 q1, .slice p2 n2 q2, .int .i64 u.1.1, .int .i64 u.1.2.1, .int .i64 u.1.2.2] 62)
    have h4 := blk_new w1 (.cells #[.slice p1 n1 q1, .slice p2 n2 q2, .int .i64 u.1.1, .int .i64 u.1.2.1, .int .i64 u.1.2.2] 62)
    rw [hw4] at hM4 h4
    have HB4 : Hid (Below w.heap.size w w4) := Lib.hid (by rw [← hw4]; exact Below.alloc HB1.out HB1.out.size _)
    clear hw4
    have hlM := blk_lt hM4
    have hMk : w4.cell? ⟨M, k, none⟩ = some (#[.pointer (some ⟨c, 0, none⟩), .pointer (some ⟨g, 0, none⟩), .int .i64 e, c3, c4, c5, c6, c7, c8, c9, c10, c11, c12, c13] : Array Value)[k] := by rw [blk_cells hM4]; simp [hk]
    have hMf : w4.frozen? ⟨M, k, none⟩ = false := blk_frz hM4 k
    have hz4 := blk_cells h4
    generalize (#[.pointer (some ⟨c, 0, none⟩), .pointer (some ⟨g, 0, none⟩), .int .i64 e, c3, c4, c5, c6, c7, c8, c9, c10, c11, c12, c13] : Array Value)[k] = cx at hMk
    clear hMB hcc hM4 h4
    go_wp2_with fail
    go_ret
    exact ⟨rfl, w4, HB4.out, rfl⟩
  · have hMB := blk_below HM.out HB1.out
    obtain ⟨w4, hw4, h4, hs4, hk4, hb4⟩ := five w1 w.heap.size HZW.out (.slice p1 n1 q1) (.slice p2 n2 q2) (.int .i64 u.1.1) (.int .i64 u.1.2.1) (.int .i64 u.1.2.2)
    rw [hw4]
    clear hw4
    have hM4 := (hk4 M (by omega)).trans hMB
    have HB4 := Lib.hid (hb4 _ _ HB1.out (Nat.le_refl _))
    have hlM := blk_lt hM4
    have hMk : w4.cell? ⟨M, k, none⟩ = some (#[.pointer (some ⟨c, 0, none⟩), .pointer (some ⟨g, 0, none⟩), .int .i64 e, c3, c4, c5, c6, c7, c8, c9, c10, c11, c12, c13] : Array Value)[k] := by rw [blk_cells hM4]; simp [hk]
    have hMf : w4.frozen? ⟨M, k, none⟩ = false := blk_frz hM4 k
    have hz4 := blk_cells h4
    generalize (#[.pointer (some ⟨c, 0, none⟩), .pointer (some ⟨g, 0, none⟩), .int .i64 e, c3, c4, c5, c6, c7, c8, c9, c10, c11, c12, c13] : Array Value)[k] = cx at hMk
    clear hMB hcc hcz hfz hlz hM4 h4 hk4 hb4
    go_wp2_with fail
    go_ret
    exact ⟨rfl, w4, HB4.out, rfl⟩
end Go.Proofs.YtfnmlpnncjhnmaaGreat


/- sheet: the maker's steps: all balances, what is owned. -/
set_option linter.unusedVariables false
set_option linter.unusedSimpArgs false
namespace Go.Proofs.YtfnmlpnncjhnmaaGreat
open Go.RowKit Go.Maps Go.Deep
variable {tb : Obj}

abbrev KLs := List (Value × List (Int × Int))
/-- a maker of the call's own, and the lists that the call owns -/
structure MSt (w0 w : World) (M : Nat) (tb : Obj) (cs : Array Value) (os : KLs) : Prop where
  cell : w.heap[M]? = some (.cells cs 145 (0, 0))
  bel : Below w0.heap.size w0 w
  ge : w0.heap.size ≤ M
  own : ∀ p ∈ os, OwnL tBal w w0.heap.size p.1 p.2
  ap : os.Pairwise (fun p q => p.1.ownBlock = none ∨ p.1.ownBlock ≠ q.1.ownBlock)
  nxt : w.heap[M + 1]? = some tb
theorem MSt.set {w0 w w1 : World} {M : Nat} {cs cs' : Array Value} {os : KLs} (h : MSt w0 w M tb cs os) (hb : Below w.heap.size w w1) (k : Nat) (u : Value) (hcs : cs.setIfInBounds k u = cs') : MSt w0 (w1.setCell ⟨M, k, none⟩ u) M tb cs' os := by
  have h1 := blk_below h.cell hb
  refine ⟨by rw [← hcs]; exact blk_set h1 k u, (belows_then h.bel h.bel.size hb).setCell h.ge u, h.ge, fun p hp => ?_, h.ap, blk_far (blk_below h.nxt hb) (by simp) u⟩
  have hn := ((h.own p hp).below hb).ne h1 (by decide)
  exact own_set ((h.own p hp).below hb) (fun j hj => Below.heap_setCell _ _ _ j (fun e => hn (by rw [hj, e])))
theorem MSt.call {w0 w w1 : World} {M : Nat} {cs : Array Value} {os : KLs} (h : MSt w0 w M tb cs os) (hb : Below w.heap.size w w1) : MSt w0 w1 M tb cs os :=
  ⟨blk_below h.cell hb, belows_then h.bel h.bel.size hb, h.ge, fun p hp => (h.own p hp).below hb, h.ap, blk_below h.nxt hb⟩
theorem MSt.add {w0 w w1 : World} {M : Nat} {cs : Array Value} {os : KLs} {x : Value} {Y : List (Int × Int)} (h : MSt w0 w M tb cs os) (hb : Below w.heap.size w w1) (ho : OwnL tBal w1 w.heap.size x Y) : MSt w0 w1 M tb cs ((x, Y) :: os) := by
  have h1 := h.call hb
  refine ⟨h1.cell, h1.bel, h1.ge, fun p hp => ?_, List.pairwise_cons.2 ⟨fun q hq => ?_, h.ap⟩, h1.nxt⟩
  · rcases List.mem_cons.1 hp with rfl | hp
    · exact ho.mono h.bel.size
    · exact h1.own p hp
  · cases hx : x.ownBlock with
    | none => exact .inl rfl
    | some k => exact .inr (fun e => by
      have h2 := (ho.lt k hx).1
      have h3 := ((h.own q hq).lt k e.symm).2
      omega)
theorem SM.at' {w0 w : World} {M t : Nat} {cs : Array Value} (hM : w0.heap[M]? = some (.cells cs t (0, 0))) (h : SM w0 w) (o : Nat) {v : Value} (hv : cs[o]? = some v) : w.cell? ⟨M, o, none⟩ = some v := by
  rw [blk_cells (blk_below hM h), hv]

set_option maxHeartbeats 8000000 in
set_option maxRecDepth 100000 in
theorem shBal_any {w0 w : World} {M c g : Nat} {e p o1 o2 o3 o4 o5 o6 : Int} {vl A L E : Value} (hcell : w.heap[M]? = some (.cells #[.pointer (some ⟨c, 0, none⟩), .pointer (some ⟨g, 0, none⟩), .int .i64 e, .int .i64 p, vl, A, L, E, .int .i64 o1, .int .i64 o2, .int .i64 o3, .int .i64 o4, .int .i64 o5, .int .i64 o6] 145 (0, 0))) (hbel : Below w0.heap.size w0 w) (hge : w0.heap.size ≤ M) (hnx : w.heap[M + 1]? = some tb)
    {a : Option Addr} {cap : Nat} {J : List Jn} {F : Nat → Prop} (hbk : BookAt w0 g a cap J F) (hl : J.length ≤ 100) (hgood : GoodJ J) (hp : I64 p) {l : List (Int × Int)} {er : Int} (hu : balT J e 0 p = (l, er)) :
    Calls Tryz.prog 96 #[.pointer (some ⟨M, 0, none⟩)] w fun en w' => en = .returned (.int .i64 er) ∧ ∃ la lc, MSt w0 w' M tb #[.pointer (some ⟨c, 0, none⟩), .pointer (some ⟨g, 0, none⟩), .int .i64 e, .int .i64 p, (.slice la l.length lc), A, L, E, .int .i64 o1, .int .i64 o2, .int .i64 o3, .int .i64 o4, .int .i64 o5, .int .i64 o6] [(.slice la l.length lc, l)] := by
  have HC : Hid (∀ W, SM w W → Calls Tryz.prog 11 #[.pointer (some ⟨g, 0, none⟩), tofv e 0 p] W (BalPost W (l, er))) := Lib.hid (fun W hb => by
    have := balances_any (hbk.below (hbel.trans (Below.mono (show Below w.heap.size w W from hb) hbel.size))) (by omega) hgood e 0 p (by decide) hp
    rw [hu] at this
    exact this)
  have HM := Lib.hid hcell
  have HBE := Lib.hid hbel
  have HNX := Lib.hid hnx
  have hcc := blk_cells hcell
  have hlt := blk_lt hcell
  clear hbk hgood hu hp hcell hbel hnx
  have hS : SM w w := Below.refl _ _
  have KS : Hid (∀ W, SM w W → (W.cell? ⟨M, 1, none⟩ = some (.pointer (some ⟨g, 0, none⟩)) ∧ W.cell? ⟨M, 2, none⟩ = some (.int .i64 e) ∧ W.cell? ⟨M, 3, none⟩ = some (.int .i64 p))) := Lib.hid (fun W h => ⟨SM.at' HM.out h 1 rfl, SM.at' HM.out h 2 rfl, SM.at' HM.out h 3 rfl⟩)
  go_enter Tryz.func96, Tryz.ntmps96
  go_wp2_with fail
  go_region_held3 (fun w' => w'.cell? ⟨M, 1, none⟩ = some (.pointer (some ⟨g, 0, none⟩)) ∧ w'.cell? ⟨M, 2, none⟩ = some (.int .i64 e) ∧ w'.cell? ⟨M, 3, none⟩ = some (.int .i64 p)) (first | with_reducible exact KS.out _ HB1.out | with_reducible exact KS.out _ (SM.drew hS)) ((go_at_call 11; refine (HC.out _ (SM.drew hS)).mono ?_; rintro en w1 ⟨v, rfl, ho, hb⟩; have HB1 : Hid (SM w w1) := Lib.hid (SM.call (SM.drew hS) hb); have HO1 := Lib.hid ho; clear ho hb))
  have hcs := HO1.out
  obtain ⟨la, lc, rfl, _, _, _⟩ := hcs.slice
  clear hcs
  have hM1 := blk_below HM.out HB1.out
  have hc1 := blk_cells hM1
  have hf1 := blk_frz hM1
  have hl1 := blk_lt hM1
  clear hM1 hcc
  go_wp2_with fail
  go_ret
  have h1 := blk_below HM.out HB1.out
  have hn := HO1.out.ne h1 (by decide)
  exact ⟨rfl, la, lc, ⟨by have := blk_set h1 4 (.slice la l.length lc); simpa using this, (HBE.out.trans (Below.mono (show Below w.heap.size w w1 from HB1.out) HBE.out.size)).setCell hge _, hge, fun p hp => by rw [List.mem_singleton.1 hp]; exact own_set (OwnL.mono HO1.out HBE.out.size) (fun j hj => Below.heap_setCell _ _ _ j (fun e => hn (by rw [hj, e]))), List.pairwise_singleton _ _, blk_far (blk_below HNX.out HB1.out) (by simp) _⟩⟩
end Go.Proofs.YtfnmlpnncjhnmaaGreat
