/- group: inner (is an entity a member?). -/
import Derived.Test.YtgggpaacagbmcaaGreatX22GroupInner
import Derived.Test.YtgggpaacagbmcaaGreatX21GroupInner
import Derived.LoopN
import Derived.Test.YtgggpaacagbmcaaGreatX17GroupInner
import Derived.Test.YtgggpaacagbmcaaGreatX20GroupInner
set_option linter.unusedVariables false
set_option linter.unusedSimpArgs false
namespace Go.Proofs.YtgggpaacagbmcaaGreat
open Go.RowKit Go.Maps Go.Deep

set_option maxHeartbeats 2000000 in
set_option maxRecDepth 100000 in
theorem inner1_is (m : Mb) (e : Int) (b : Nat) (w : World) (hb : w.heap[b]? = some (.cells #[.int .i64 e] 3 (0, 0))) {r : Bool} (hr : (m.en == e) = r) :
    Calls Tryz.prog 123 #[mbv m, .pointer (some ⟨b, 0, none⟩)] w fun en w' => en = .returned (.bool r) ∧ Below w.heap.size w w' := by
  obtain ⟨en, sh, cl, av, ol⟩ := m
  simp only at hr
  have hc := blk_cells hb
  have hl := blk_lt hb
  clear hb
  have HB := Lib.hid ((Below.refl w.heap.size w).alloc (Nat.le_refl _) (.cells #[.int .i64 en, .int .i64 sh, .int .i64 cl, .int .i64 av, .int .i64 ol] 72))
  cases r
  all_goals
    go_enter Tryz.func123, Tryz.ntmps123
    go_wp2_with fail
    go_ret
    exact ⟨rfl, HB.out⟩

set_option maxHeartbeats 2000000 in
set_option maxRecDepth 100000 in
theorem indexM_any (l : List Mb) (a : Option Addr) (cap : Nat) (e : Int) (b : Nat) (w : World) {F : Nat → Prop} (hs : Sl tMb w F a l) (hl : l.length ≤ maxLen) (hb : w.heap[b]? = some (.cells #[.int .i64 e] 3 (0, 0))) :
    Calls Tryz.prog 148 #[.slice a l.length cap, .func (.func 123) #[] #[.pointer (some ⟨b, 0, none⟩)]] w (IdxPost w (innB l e)) := by
  have HS := Lib.hid hs
  have HBL := Lib.hid hb
  have hl' : l.length ≤ 9223372036854775807 := by unfold maxLen at hl; omega
  clear hs hl hb
  generalize hres : innB l e = res
  have HR := Lib.hid hres
  clear hres
  go_enter Tryz.func148, Tryz.ntmps148
  go_wp2_with fail
  go_loopw [8] (fun vi wr => ∃ n : Nat, n ≤ l.length ∧ vi = .int .i64 n ∧ Hid ((l.take n).any (fun m => m.en == e) = false) ∧ Below w.heap.size w wr) (fun vi _ => l.length - (Go.RowKit.intOf vi).toNat)
  case atStart => exact ⟨0, Nat.zero_le _, rfl, rfl, Below.refl _ _⟩
  case round =>
    obtain ⟨n, hn, rfl, hany, hb⟩ := hrel
    have HB1 := Lib.hid hb
    clear hb
    by_cases hlt : n < l.length
    · obtain ⟨ad, rfl, _, hadl, hc0, hc1, hc2, hc3, hc4, _⟩ := mb_at (Sl.keep (fun k hk _ => HB1.out.block k hk) HS.out) n hlt
      have HBW := Lib.hid (blk_below HBL.out HB1.out)
      go_wp2_with fail
      cases hv : (l[n].en == e)
      · refine (inner1_is l[n] e b _ HBW.out hv).mono ?_
        rintro e w2 ⟨rfl, hb⟩
        have HB2 := Lib.hid (belows_then HB1.out HB1.out.size hb)
        have HN : Hid (((l.take (n + 1)).any fun m => m.en == e) = false) := Lib.hid (by rw [any_take_succ (fun m : Mb => m.en == e) l n hlt, hany.out, hv]; rfl)
        clear hb hc0 hc1 hc2 hc3 hc4 hadl hv
        go_wp2_with fail
        go_roundw
        case rel => exact ⟨n + 1, by omega, by go_num, HN, HB2.out⟩
        case measure => simp [Go.RowKit.intOf]; omega
      · refine (inner1_is l[n] e b _ HBW.out hv).mono ?_
        rintro e w2 ⟨rfl, hb⟩
        have HB2 := Lib.hid (belows_then HB1.out HB1.out.size hb)
        have hr : res = true := by rw [← HR.out]; exact any_at (fun m : Mb => m.en == e) l n hlt hv
        have HRR := Lib.hid hr
        clear hb hc0 hc1 hc2 hc3 hc4 hadl hv hr
        go_wp2_with fail
        go_ret
        rw [HRR.out]
        exact ⟨⟨_, rfl, by simp⟩, HB2.out⟩
    · have hr : res = false := by
        rw [← HR.out]
        have := hany.out
        rwa [take_all hn hlt] at this
      have HRR := Lib.hid hr
      clear hr
      go_wp2_with fail
      go_ret
      rw [HRR.out]
      exact ⟨⟨_, rfl, by decide⟩, HB1.out⟩

set_option maxHeartbeats 2000000 in
theorem containsM_any (l : List Mb) (a : Option Addr) (cap : Nat) (e : Int) (b : Nat) (w : World) {F : Nat → Prop} (hs : Sl tMb w F a l) (hl : l.length ≤ maxLen) (hb : w.heap[b]? = some (.cells #[.int .i64 e] 3 (0, 0))) :
    Calls Tryz.prog 122 #[.slice a l.length cap, .func (.func 123) #[] #[.pointer (some ⟨b, 0, none⟩)]] w fun en w' => en = .returned (.bool (innB l e)) ∧ Below w.heap.size w w' := by
  have H := indexM_any l a cap e b w hs hl hb
  generalize innB l e = res at H ⊢
  have HH := Lib.hid H
  clear H hs hl hb
  go_enter Tryz.func122, Tryz.ntmps122
  go_wp2_with fail
  refine HH.out.mono ?_
  rintro en w' ⟨⟨k, rfl, hk⟩, hb⟩
  have HK := Lib.hid hk
  clear hk
  go_wp2_with fail
  go_ret
  rw [← HK.out]
  exact ⟨rfl, hb⟩

/-- a group's work behind a pointer: chart, book, period, members; what is done so far in the four lists behind -/
abbrev wkC (c g : Nat) (p : Int) (ma : Option Addr) (ms : List Mb) (mc : Nat) (x4 x5 x6 x7 : Value) : Array Value :=
  #[.pointer (some ⟨c, 0, none⟩), .pointer (some ⟨g, 0, none⟩), .int .i64 p, .slice ma ms.length mc, x4, x5, x6, x7]
set_option maxHeartbeats 2000000 in
set_option maxRecDepth 100000 in
theorem grInner_any {w : World} {W : Nat} {c g : Nat} {p : Int} {ma : Option Addr} {ms : List Mb} {mc : Nat} {x4 x5 x6 x7 : Value} (hw : w.heap[W]? = some (.cells (wkC c g p ma ms mc x4 x5 x6 x7) 96 (0, 0))) {F : Nat → Prop} (hs : Sl tMb w F ma ms) (hl : ms.length ≤ maxLen) (e : Int) :
    Calls Tryz.prog 79 #[.pointer (some ⟨W, 0, none⟩), .int .i64 e] w fun en w' => en = .returned (.bool (innB ms e)) ∧ Below w.heap.size w w' := by
  have hwl := blk_lt hw
  have HW := Lib.hid (blk_alloc hw (.cells #[.int .i64 e] 3))
  have hcc := blk_cells HW.out
  have HS := Lib.hid (Sl.keep (w' := w.alloc (.cells #[.int .i64 e] 3)) (fun k hk _ => Below.heap_alloc w _ k hk) hs)
  have HN := Lib.hid (blk_new w (.cells #[.int .i64 e] 3))
  have HB := Lib.hid ((Below.refl w.heap.size w).alloc (Nat.le_refl _) (.cells #[.int .i64 e] 3))
  have HC := Lib.hid (containsM_any ms ma mc e w.heap.size _ HS.out hl HN.out)
  have hmf : ∀ (fn : Fn) (first cap : Array Value) (w : World), (Instr.makeFunc fn first cap).run Tryz.prog w = .ok (.func fn first cap) w := fun _ _ _ _ => rfl
  clear hw hs
  go_enter Tryz.func79, Tryz.ntmps79
  go_wp2_with fail
  refine HC.out.mono ?_
  rintro en w1 ⟨rfl, hb⟩
  have HB1 := Lib.hid (belows_then HB.out (by simp) hb)
  clear hb
  go_wp2_with fail
  go_ret
  exact ⟨rfl, HB1.out⟩
end Go.Proofs.YtgggpaacagbmcaaGreat


/- sheet: the maker's steps: what is owned, owed, held. -/
set_option linter.unusedVariables false
set_option linter.unusedSimpArgs false
namespace Go.Proofs.YtgggpaacagbmcaaGreat
open Go.RowKit Go.Maps Go.Deep
variable {tb : Obj}

end Go.Proofs.YtgggpaacagbmcaaGreat


/- sheet: the maker's steps: what is retained, what this year came to. -/
set_option linter.unusedVariables false
set_option linter.unusedSimpArgs false
namespace Go.Proofs.YtgggpaacagbmcaaGreat
open Go.RowKit Go.Maps Go.Deep
variable {tb : Obj}

/-- what the years ahead came to; what this year did -/
def retT (r : List Ac) (J : List Jn) (e p : Int) : Int × Int := if janOf p == 0 then (0, 0) else ((incM r J e 0 (janOf p - 1)).1.2.2, (incM r J e 0 (janOf p - 1)).2)
def curT (r : List Ac) (J : List Jn) (e p : Int) : Int × Int := ((incM r J e (janOf p) p).1.2.2, (incM r J e (janOf p) p).2)
theorem jan_bd {p : Int} (hp : monthOk p = true) : 0 ≤ janOf p ∧ janOf p ≤ p ∧ p ≤ 1199 := by
  have hb : 0 ≤ p ∧ p ≤ 1199 := by simpa [monthOk] using hp
  unfold janOf
  omega

end Go.Proofs.YtgggpaacagbmcaaGreat


/- sheet: the maker's last step: what stands in accounts that are none. -/
set_option linter.unusedVariables false
set_option linter.unusedSimpArgs false
namespace Go.Proofs.YtgggpaacagbmcaaGreat
open Go.RowKit Go.Maps Go.Deep
variable {tb : Obj}

def outB (r : List Ac) (x : Int × Int) : Bool := (findA r x.1).isNone
def othL (r : List Ac) (l : List (Int × Int)) : List (Int × Int) := (l.filter (outB r)).map negB

end Go.Proofs.YtgggpaacagbmcaaGreat


/- sheet.Make: the sheet of an entity at the end of a period. -/
set_option linter.unusedVariables false
set_option linter.unusedSimpArgs false
namespace Go.Proofs.YtgggpaacagbmcaaGreat
open Go.RowKit Go.Maps Go.Deep

def owT (r : List Ac) (l : List (Int × Int)) : Int × Int := addM ((l.filter (pickB r [1])).map (·.2))
def oeT (r : List Ac) (l : List (Int × Int)) : Int × Int := addM (((l.filter (pickB r [2])).map negB).map (·.2))
def heT (r : List Ac) (l : List (Int × Int)) : Int × Int := addM (((l.filter (pickB r [3])).map negB).map (·.2))
def otT (r : List Ac) (l : List (Int × Int)) : Int × Int := addM ((othL r l).map (·.2))
/-- the error of a sheet -/
def shE (r : List Ac) (J : List Jn) (e p : Int) : Int :=
  if (balT J e 0 p).2 != 0 then (balT J e 0 p).2 else if (owT r (balT J e 0 p).1).2 != 0 then (owT r (balT J e 0 p).1).2 else if (oeT r (balT J e 0 p).1).2 != 0 then (oeT r (balT J e 0 p).1).2 else
  if (heT r (balT J e 0 p).1).2 != 0 then (heT r (balT J e 0 p).1).2 else if (retT r J e p).2 != 0 then (retT r J e p).2 else if (curT r J e p).2 != 0 then (curT r J e p).2 else (otT r (balT J e 0 p).1).2
/-- its six sums, and the error -/
def shT (r : List Ac) (J : List Jn) (e p : Int) : (Int × Int × Int × Int × Int × Int) × Int :=
  if shE r J e p != 0 then ((0, 0, 0, 0, 0, 0), shE r J e p) else (((owT r (balT J e 0 p).1).1, (oeT r (balT J e 0 p).1).1, (heT r (balT J e 0 p).1).1, (retT r J e p).1, (curT r J e p).1, (otT r (balT J e 0 p).1).1), 0)
/-- what Make tells -/
def ShP (w : World) (n1 : Nat) (t : (Int × Int × Int × Int × Int × Int) × Int) (en : Ending) (w' : World) : Prop :=
  ∃ a1 m1 c1 a2 m2 c2 a3 m3 c3, en = .returned (.tuple #[.agg #[.slice a1 m1 c1, .slice a2 m2 c2, .slice a3 m3 c3, .int .i64 t.1.1, .int .i64 t.1.2.1, .int .i64 t.1.2.2.1, .int .i64 t.1.2.2.2.1, .int .i64 t.1.2.2.2.2.1, .int .i64 t.1.2.2.2.2.2], .int .i64 t.2]) ∧
    (t.2 = 0 → m1 = n1) ∧ (t.2 ≠ 0 → m1 = 0 ∧ m2 = 0 ∧ m3 = 0) ∧ Below w.heap.size w w'
/-- what Make tells, with the lists -/
def ShL (w : World) (X1 X2 X3 : List (Int × Int)) (t : (Int × Int × Int × Int × Int × Int) × Int) (en : Ending) (w' : World) : Prop :=
  ∃ a1 m1 c1 a2 m2 c2 a3 m3 c3, en = .returned (.tuple #[.agg #[.slice a1 m1 c1, .slice a2 m2 c2, .slice a3 m3 c3, .int .i64 t.1.1, .int .i64 t.1.2.1, .int .i64 t.1.2.2.1, .int .i64 t.1.2.2.2.1, .int .i64 t.1.2.2.2.2.1, .int .i64 t.1.2.2.2.2.2], .int .i64 t.2]) ∧
    (t.2 = 0 → (m1 = X1.length ∧ m2 = X2.length ∧ m3 = X3.length) ∧ (∀ p ∈ [(Value.slice a3 m3 c3, X3), (.slice a2 m2 c2, X2), (.slice a1 m1 c1, X1)], OwnL tBal w' w.heap.size p.1 p.2) ∧ [(Value.slice a3 m3 c3, X3), (.slice a2 m2 c2, X2), (.slice a1 m1 c1, X1)].Pairwise (fun p q => p.1.ownBlock = none ∨ p.1.ownBlock ≠ q.1.ownBlock)) ∧
    (t.2 ≠ 0 → Value.slice a1 m1 c1 = .slice none 0 0 ∧ Value.slice a2 m2 c2 = .slice none 0 0 ∧ Value.slice a3 m3 c3 = .slice none 0 0) ∧ Below w.heap.size w w'
theorem nine (w : World) (b : Nat) {t : TypeId} {x0 x1 x2 x3 x4 x5 x6 x7 x8 : Value} (h : w.heap[b]? = some (.cells #[x0, x1, x2, x3, x4, x5, x6, x7, x8] t (0, 0))) (v0 v1 v2 v3 v4 v5 v6 v7 v8 : Value) :
    ∃ w4, (((((((((w.setCell ⟨b, 0, none⟩ v0).setCell ⟨b, 1, none⟩ v1).setCell ⟨b, 2, none⟩ v2).setCell ⟨b, 3, none⟩ v3).setCell ⟨b, 4, none⟩ v4).setCell ⟨b, 5, none⟩ v5).setCell ⟨b, 6, none⟩ v6).setCell ⟨b, 7, none⟩ v7).setCell ⟨b, 8, none⟩ v8) = w4 ∧ w4.heap[b]? = some (.cells #[v0, v1, v2, v3, v4, v5, v6, v7, v8] t (0, 0)) ∧ w4.heap.size = w.heap.size ∧
      (∀ k, k ≠ b → w4.heap[k]? = w.heap[k]?) ∧ (∀ B w0, Below B w0 w → B ≤ b → Below B w0 w4) := by
  refine ⟨_, rfl, ?_, by simp, fun k hk => ?_, fun B w0 hb hB => ?_⟩
  · have := blk_set (blk_set (blk_set (blk_set (blk_set (blk_set (blk_set (blk_set (blk_set h 0 v0) 1 v1) 2 v2) 3 v3) 4 v4) 5 v5) 6 v6) 7 v7) 8 v8
    simpa using this
  · iterate 9 (rw [Below.heap_setCell _ _ _ k hk])
  · iterate 9 (refine Below.setCell ?_ hB _)
    exact hb
theorem trans_below {w0 w : World} {b : Nat} {o : Obj} (h : w0.heap[b]? = some o) (hb : Below w0.heap.size w0 w) : w.heap[b]? = some o := blk_below h hb

end Go.Proofs.YtgggpaacagbmcaaGreat


/- The document's balances: an amount put at its account. -/
set_option linter.unusedVariables false
set_option linter.unusedSimpArgs false
namespace Go.Proofs.YtgggpaacagbmcaaGreat
open Go.RowKit Go.Maps Go.Deep

def pStep (k m : Int) (s : List (Int × Int) × Bool) (x : Int × Int) : List (Int × Int) × Bool :=
  if s.2 then (s.1 ++ [x], true) else if x.1 == k then (s.1 ++ [(x.1, x.2 + m)], true) else if decide (k < x.1) then (s.1 ++ [(k, m)] ++ [x], true) else (s.1 ++ [x], false)
def pFold (k m : Int) (l : List (Int × Int)) : List (Int × Int) × Bool := l.foldl (pStep k m) ([], false)
def putL (l : List (Int × Int)) (k m : Int) : List (Int × Int) := if (pFold k m l).2 then (pFold k m l).1 else (pFold k m l).1 ++ [(k, m)]
theorem pFold_succ (k m : Int) (l : List (Int × Int)) (n : Nat) (hn : n < l.length) : pFold k m (l.take (n + 1)) = pStep k m (pFold k m (l.take n)) l[n] := by
  unfold pFold
  rw [List.take_succ_eq_append_getElem hn, List.foldl_append]
  rfl
theorem pFold_len (k m : Int) : ∀ (l : List (Int × Int)) (s : List (Int × Int) × Bool), (l.foldl (pStep k m) s).1.length ≤ s.1.length + 2 * l.length
  | [], s => by simp
  | x :: r, s => by
    rw [List.foldl_cons]
    refine Nat.le_trans (pFold_len k m r _) ?_
    have : (pStep k m s x).1.length ≤ s.1.length + 2 := by
      unfold pStep
      split
      · simp
      · split
        · simp
        · split <;> simp
    simp only [List.length_cons]
    omega

set_option maxHeartbeats 16000000 in
set_option maxRecDepth 100000 in
theorem r10Put_any (l : List (Int × Int)) (a : Option Addr) (cap : Nat) (k m : Int) (w : World) {F : Nat → Prop} (hs : Sl tBal w F a l) (hl : l.length ≤ 10000) (hk : I64 k) (hm1 : -1000000000000000 ≤ m) (hm2 : m ≤ 1000000000000000) (hbd : ∀ x ∈ l, -8000000000000000000 ≤ x.2 ∧ x.2 ≤ 8000000000000000000) :
    Calls Tryz.prog 33 #[.slice a l.length cap, .int .i64 k, .int .i64 m] w fun en w' => ∃ v, en = .returned v ∧ OwnL tBal w' w.heap.size v (putL l k m) ∧ Below w.heap.size w w' := by
  have HS := Lib.hid hs
  have HBD := Lib.hid hbd
  have GK := Lib.hid hk
  have GM : Hid (I64 m) := Lib.hid (i64_ofB (by omega) (by omega))
  clear hs hbd hk
  obtain ⟨i0, hi, hz0, hz1, hz2⟩ := info_parts infoBal
  go_enter Tryz.func33, Tryz.ntmps33
  go_wp2_with fail
  go_loopw [7, 8, 9] (fun vo vd vi wr => ∃ (n : Nat) (vx : Value) (out : List (Int × Int)) (d : Bool), vx = vo ∧ n ≤ l.length ∧ vi = .int .i64 n ∧ vd = .bool d ∧ Hid (pFold k m (l.take n) = (out, d)) ∧ OwnL tBal wr w.heap.size vx out ∧ Below w.heap.size w wr) (fun _ _ vi _ => l.length - (Go.RowKit.intOf vi).toNat)
  case atStart => exact ⟨0, _, [], false, rfl, Nat.zero_le _, rfl, rfl, Lib.hid rfl, OwnL.nil _ _, Below.refl _ _⟩
  case round =>
    obtain ⟨n, vo, out, d, rfl, hn, rfl, rfl, hst, ho, hb⟩ := hrel
    have HO := Lib.hid ho
    have HB := Lib.hid hb
    clear ho hb
    have HLN : Hid (out.length ≤ 20000) := Lib.hid (by
      have := pFold_len k m (l.take n) ([], false)
      have h2 := hst.out
      unfold pFold at h2
      rw [h2, List.length_take] at this
      simp only [List.length_nil] at this
      omega)
    by_cases hlt : n < l.length
    · obtain ⟨ad, rfl, _, hadl, hc0, hc1, g0, g1⟩ := bal_at (Sl.keep (fun k hk _ => HB.out.block k hk) HS.out) n hlt
      have HN0 := Lib.hid (pFold_succ k m l n hlt)
      rw [hst.out] at HN0
      have hbx := HBD.out _ (List.getElem_mem hlt)
      generalize l[n] = x at *
      obtain ⟨x1, x2⟩ := x
      simp only at hc0 hc1 g0 g1 hbx
      have G0 := Lib.hid g0
      have G1 := Lib.hid g1
      have hwm : wrap64 (x2 + m) = x2 + m := by unfold wrap64; omega
      have hwm' : IntKind.i64.wrap (x2 + m) = x2 + m := wrap_is (by omega) (by omega)
      have GS : Hid (I64 (x2 + m)) := Lib.hid (i64_ofB (by omega) (by omega))
      clear g0 g1 hbx
      cases d
      · have hcs : (x1 == k) = true ∨ (x1 == k) = false ∧ (k < x1 ∨ x1 < k) := by
          by_cases h : x1 = k
          · exact .inl (by simpa using h)
          · exact .inr ⟨by simpa using h, by omega⟩
        rcases hcs with h1 | ⟨h1, h2 | h2⟩
        · have HN : Hid (pFold k m (l.take (n + 1)) = (out ++ [(x1, x2 + m)], true)) := Lib.hid (by rw [HN0.out]; unfold pStep; simp only [Bool.false_eq_true, if_false, h1, if_true])
          have HOW := Lib.hid (HO.out.alloc (.cells #[.int .i64 x1, .int .i64 (x2 + m)] 62))
          have HBW := Lib.hid (HB.out.alloc HB.out.size (.cells #[.int .i64 x1, .int .i64 (x2 + m)] 62))
          have HOA := Lib.hid (HOW.out.alloc (.cells #[.int .i64 x1, .int .i64 (x2 + m)] 62))
          have HBA := Lib.hid (HBW.out.alloc HBW.out.size (.cells #[.int .i64 x1, .int .i64 (x2 + m)] 62))
          have hsl0 : Sl tBal ((wr.alloc (.cells #[.int .i64 x1, .int .i64 (x2 + m)] 62)).alloc (.cells #[.int .i64 x1, .int .i64 (x2 + m)] 62)) (fun kk => some kk ≠ (vo).ownBlock ∧ kk < ((wr.alloc (.cells #[.int .i64 x1, .int .i64 (x2 + m)] 62)).alloc (.cells #[.int .i64 x1, .int .i64 (x2 + m)] 62)).heap.size) (some ⟨(wr.alloc (.cells #[.int .i64 x1, .int .i64 (x2 + m)] 62)).heap.size, 0, none⟩) [((x1, (x2 + m)) : Int × Int)] :=
            sl_one2 tBal (x := (x1, (x2 + m))) rfl (blk_new (wr.alloc (.cells #[.int .i64 x1, .int .i64 (x2 + m)] 62)) _) ⟨fun e => by have := (HOW.out.lt _ e.symm).2; omega, by simp⟩ (bal_mk (x1, (x2 + m)) G0.out GS.out)
          have hadr : (⟨(wr.alloc (.cells #[.int .i64 x1, .int .i64 (x2 + m)] 62)).heap.size, 0, none⟩ : Addr) = ⟨wr.heap.size + 1, 0, none⟩ := by first | rfl | simp
          first | rw [hadr] at hsl0 | skip
          have HSL := Lib.hid hsl0
          clear hsl0 hadr
          have h63 : (out).length + [((x1, (x2 + m)) : Int × Int)].length ≤ maxLen := by have := HLN.out; simp only [List.length_cons, List.length_nil, List.length_append]; unfold maxLen; omega
          have hby : ((out).length + [((x1, (x2 + m)) : Int × Int)].length) * 16 ≤ 140737488355328 := by have := HLN.out; simp only [List.length_cons, List.length_nil, List.length_append]; omega
          go_wp2_with (at_builtin; refine wp_app (T := tBal) rfl _ _ 49 rfl i0 (.agg #[.int .i64 0, .int .i64 0]) 16 Tryz.underlying49 hi hz0 hz1 hz2 rfl (by decide) bal_one w.heap.size vo (out) rfl HOA.out ⟨wr.heap.size + 1, 0, none⟩ 1 [((x1, (x2 + m)) : Int × Int)] rfl HSL.out h63 hby HBA.out.size ?_; intro v3 w3 hown hg hnil hat; have HO3 := Lib.hid hown; have HB3 := Lib.hid (Below.grown HBA.out hg HBA.out.size (fun k e => (HOA.out.lt k e).1)); skip; clear hown hg hnil hat)
          go_roundw
          case rel => exact ⟨n + 1, _, _, true, rfl, by omega, by go_num, rfl, HN, HO3.out, HB3.out⟩
          case measure => simp [Go.RowKit.intOf]; omega
        · have HN : Hid (pFold k m (l.take (n + 1)) = (out ++ [(k, m)] ++ [(x1, x2)], true)) := Lib.hid (by rw [HN0.out]; unfold pStep; simp only [Bool.false_eq_true, if_false, h1, h2, decide_true, if_true])
          have HOW := Lib.hid (HO.out.alloc (.cells #[.int .i64 x1, .int .i64 x2] 62))
          have HBW := Lib.hid (HB.out.alloc HB.out.size (.cells #[.int .i64 x1, .int .i64 x2] 62))
          have HOA := Lib.hid (HOW.out.alloc (.cells #[.int .i64 k, .int .i64 m] 62))
          have HBA := Lib.hid (HBW.out.alloc HBW.out.size (.cells #[.int .i64 k, .int .i64 m] 62))
          have HSL : Hid (Sl tBal ((wr.alloc (.cells #[.int .i64 x1, .int .i64 x2] 62)).alloc (.cells #[.int .i64 k, .int .i64 m] 62)) (fun kk => some kk ≠ vo.ownBlock ∧ kk < ((wr.alloc (.cells #[.int .i64 x1, .int .i64 x2] 62)).alloc (.cells #[.int .i64 k, .int .i64 m] 62)).heap.size) (some ⟨wr.heap.size + 1, 0, none⟩) [((k, m) : Int × Int)]) :=
            Lib.hid (sl_one2 tBal (x := (k, m)) rfl (by have := blk_new (wr.alloc (.cells #[.int .i64 x1, .int .i64 x2] 62)) (.cells #[.int .i64 k, .int .i64 m] 62); simpa using this) ⟨fun e => by have := (HO.out.lt _ e.symm).2; omega, by simp⟩ (bal_mk (k, m) GK.out GM.out))
          have h63 : out.length + [((k, m) : Int × Int)].length ≤ maxLen := by have := HLN.out; simp only [List.length_cons, List.length_nil]; unfold maxLen; omega
          have hby : (out.length + [((k, m) : Int × Int)].length) * 16 ≤ 140737488355328 := by have := HLN.out; simp only [List.length_cons, List.length_nil]; omega
          have h63b : (out ++ [((k, m) : Int × Int)]).length + [((x1, x2) : Int × Int)].length ≤ maxLen := by have := HLN.out; simp only [List.length_cons, List.length_nil, List.length_append]; unfold maxLen; omega
          have hbyb : ((out ++ [((k, m) : Int × Int)]).length + [((x1, x2) : Int × Int)].length) * 16 ≤ 140737488355328 := by have := HLN.out; simp only [List.length_cons, List.length_nil, List.length_append]; omega
          go_wp2_with (first
            | (at_builtin; refine wp_app (T := tBal) rfl _ _ 49 rfl i0 (.agg #[.int .i64 0, .int .i64 0]) 16 Tryz.underlying49 hi hz0 hz1 hz2 rfl (by decide) bal_one w.heap.size vo out rfl HOA.out ⟨wr.heap.size + 1, 0, none⟩ 1 [((k, m) : Int × Int)] rfl HSL.out h63 hby HBA.out.size ?_; intro v3 w3 hown hg hnil hat; have HO3 := Lib.hid hown; have HB3 := Lib.hid (Below.grown HBA.out hg HBA.out.size (fun k e => (HOA.out.lt k e).1)); have HX3 : Hid (w3.heap[wr.heap.size]? = some (.cells #[.int .i64 x1, .int .i64 x2] 62 (0, 0))) := Lib.hid ((hg.block wr.heap.size (by simp; omega) (fun e => by have := (HO.out.lt _ e.symm).2; omega)).trans (blk_alloc (blk_new wr _) _)); have hc3 := blk_cells HX3.out; have hl3 := blk_lt HX3.out; clear hown hg hnil hat)
            | (at_builtin; refine wp_app (T := tBal) rfl _ _ 49 rfl i0 (.agg #[.int .i64 0, .int .i64 0]) 16 Tryz.underlying49 hi hz0 hz1 hz2 rfl (by decide) bal_one w.heap.size v3 (out ++ [((k, m) : Int × Int)]) rfl (HO3.out.alloc (.cells #[.int .i64 x1, .int .i64 x2] 62)) ⟨w3.heap.size, 0, none⟩ 1 [((x1, x2) : Int × Int)] rfl (sl_one2 tBal (x := (x1, x2)) rfl (blk_new w3 _) ⟨fun e => by have := (HO3.out.lt _ e.symm).2; omega, by simp⟩ (bal_mk (x1, x2) G0.out G1.out)) h63b hbyb (HB3.out.alloc HB3.out.size (.cells #[.int .i64 x1, .int .i64 x2] 62)).size ?_; intro v4 w4 hown hg hnil hat; have HO4 := Lib.hid hown; have HB4 := Lib.hid (Below.grown (HB3.out.alloc HB3.out.size (.cells #[.int .i64 x1, .int .i64 x2] 62)) hg (HB3.out.alloc HB3.out.size (.cells #[.int .i64 x1, .int .i64 x2] 62)).size (fun k e => (HO3.out.lt k e).1)); clear hown hg hnil hat))
          go_roundw
          case rel => exact ⟨n + 1, _, _, true, rfl, by omega, by go_num, rfl, HN, HO4.out, HB4.out⟩
          case measure => simp [Go.RowKit.intOf]; omega
        · have hd2 : ¬ k < x1 := by omega
          have HN : Hid (pFold k m (l.take (n + 1)) = (out ++ [(x1, x2)], false)) := Lib.hid (by rw [HN0.out]; unfold pStep; simp only [Bool.false_eq_true, if_false, h1, hd2, decide_false])
          have HOW := Lib.hid (HO.out.alloc (.cells #[.int .i64 x1, .int .i64 x2] 62))
          have HBW := Lib.hid (HB.out.alloc HB.out.size (.cells #[.int .i64 x1, .int .i64 x2] 62))
          clear hd2
          have HOA := Lib.hid (HOW.out.alloc (.cells #[.int .i64 x1, .int .i64 x2] 62))
          have HBA := Lib.hid (HBW.out.alloc HBW.out.size (.cells #[.int .i64 x1, .int .i64 x2] 62))
          have hsl0 : Sl tBal ((wr.alloc (.cells #[.int .i64 x1, .int .i64 x2] 62)).alloc (.cells #[.int .i64 x1, .int .i64 x2] 62)) (fun kk => some kk ≠ (vo).ownBlock ∧ kk < ((wr.alloc (.cells #[.int .i64 x1, .int .i64 x2] 62)).alloc (.cells #[.int .i64 x1, .int .i64 x2] 62)).heap.size) (some ⟨(wr.alloc (.cells #[.int .i64 x1, .int .i64 x2] 62)).heap.size, 0, none⟩) [((x1, x2) : Int × Int)] :=
            sl_one2 tBal (x := (x1, x2)) rfl (blk_new (wr.alloc (.cells #[.int .i64 x1, .int .i64 x2] 62)) _) ⟨fun e => by have := (HOW.out.lt _ e.symm).2; omega, by simp⟩ (bal_mk (x1, x2) G0.out G1.out)
          have hadr : (⟨(wr.alloc (.cells #[.int .i64 x1, .int .i64 x2] 62)).heap.size, 0, none⟩ : Addr) = ⟨wr.heap.size + 1, 0, none⟩ := by first | rfl | simp
          first | rw [hadr] at hsl0 | skip
          have HSL := Lib.hid hsl0
          clear hsl0 hadr
          have h63 : (out).length + [((x1, x2) : Int × Int)].length ≤ maxLen := by have := HLN.out; simp only [List.length_cons, List.length_nil, List.length_append]; unfold maxLen; omega
          have hby : ((out).length + [((x1, x2) : Int × Int)].length) * 16 ≤ 140737488355328 := by have := HLN.out; simp only [List.length_cons, List.length_nil, List.length_append]; omega
          go_wp2_with (at_builtin; refine wp_app (T := tBal) rfl _ _ 49 rfl i0 (.agg #[.int .i64 0, .int .i64 0]) 16 Tryz.underlying49 hi hz0 hz1 hz2 rfl (by decide) bal_one w.heap.size vo (out) rfl HOA.out ⟨wr.heap.size + 1, 0, none⟩ 1 [((x1, x2) : Int × Int)] rfl HSL.out h63 hby HBA.out.size ?_; intro v3 w3 hown hg hnil hat; have HO3 := Lib.hid hown; have HB3 := Lib.hid (Below.grown HBA.out hg HBA.out.size (fun k e => (HOA.out.lt k e).1)); skip; clear hown hg hnil hat)
          go_roundw
          case rel => exact ⟨n + 1, _, _, false, rfl, by omega, by go_num, rfl, HN, HO3.out, HB3.out⟩
          case measure => simp [Go.RowKit.intOf]; omega
      · have HN : Hid (pFold k m (l.take (n + 1)) = (out ++ [(x1, x2)], true)) := Lib.hid (by rw [HN0.out]; unfold pStep; rfl)
        have HOW := Lib.hid (HO.out.alloc (.cells #[.int .i64 x1, .int .i64 x2] 62))
        have HBW := Lib.hid (HB.out.alloc HB.out.size (.cells #[.int .i64 x1, .int .i64 x2] 62))
        have HOA := Lib.hid (HOW.out.alloc (.cells #[.int .i64 x1, .int .i64 x2] 62))
        have HBA := Lib.hid (HBW.out.alloc HBW.out.size (.cells #[.int .i64 x1, .int .i64 x2] 62))
        have hsl0 : Sl tBal ((wr.alloc (.cells #[.int .i64 x1, .int .i64 x2] 62)).alloc (.cells #[.int .i64 x1, .int .i64 x2] 62)) (fun kk => some kk ≠ (vo).ownBlock ∧ kk < ((wr.alloc (.cells #[.int .i64 x1, .int .i64 x2] 62)).alloc (.cells #[.int .i64 x1, .int .i64 x2] 62)).heap.size) (some ⟨(wr.alloc (.cells #[.int .i64 x1, .int .i64 x2] 62)).heap.size, 0, none⟩) [((x1, x2) : Int × Int)] :=
          sl_one2 tBal (x := (x1, x2)) rfl (blk_new (wr.alloc (.cells #[.int .i64 x1, .int .i64 x2] 62)) _) ⟨fun e => by have := (HOW.out.lt _ e.symm).2; omega, by simp⟩ (bal_mk (x1, x2) G0.out G1.out)
        have hadr : (⟨(wr.alloc (.cells #[.int .i64 x1, .int .i64 x2] 62)).heap.size, 0, none⟩ : Addr) = ⟨wr.heap.size + 1, 0, none⟩ := by first | rfl | simp
        first | rw [hadr] at hsl0 | skip
        have HSL := Lib.hid hsl0
        clear hsl0 hadr
        have h63 : (out).length + [((x1, x2) : Int × Int)].length ≤ maxLen := by have := HLN.out; simp only [List.length_cons, List.length_nil, List.length_append]; unfold maxLen; omega
        have hby : ((out).length + [((x1, x2) : Int × Int)].length) * 16 ≤ 140737488355328 := by have := HLN.out; simp only [List.length_cons, List.length_nil, List.length_append]; omega
        go_wp2_with (at_builtin; refine wp_app (T := tBal) rfl _ _ 49 rfl i0 (.agg #[.int .i64 0, .int .i64 0]) 16 Tryz.underlying49 hi hz0 hz1 hz2 rfl (by decide) bal_one w.heap.size vo (out) rfl HOA.out ⟨wr.heap.size + 1, 0, none⟩ 1 [((x1, x2) : Int × Int)] rfl HSL.out h63 hby HBA.out.size ?_; intro v3 w3 hown hg hnil hat; have HO3 := Lib.hid hown; have HB3 := Lib.hid (Below.grown HBA.out hg HBA.out.size (fun k e => (HOA.out.lt k e).1)); skip; clear hown hg hnil hat)
        go_roundw
        case rel => exact ⟨n + 1, _, _, true, rfl, by omega, by go_num, rfl, HN, HO3.out, HB3.out⟩
        case measure => simp [Go.RowKit.intOf]; omega
    · have hfin := hst.out
      rw [take_all hn hlt] at hfin
      have HFIN := Lib.hid hfin
      clear hfin
      cases d
      · have HR : Hid (putL l k m = out ++ [(k, m)]) := Lib.hid (by unfold putL; rw [HFIN.out]; rfl)
        have HOA := Lib.hid (HO.out.alloc (.cells #[.int .i64 k, .int .i64 m] 62))
        have HBA := Lib.hid (HB.out.alloc HB.out.size (.cells #[.int .i64 k, .int .i64 m] 62))
        have hsl0 : Sl tBal ((wr).alloc (.cells #[.int .i64 k, .int .i64 m] 62)) (fun kk => some kk ≠ (vo).ownBlock ∧ kk < ((wr).alloc (.cells #[.int .i64 k, .int .i64 m] 62)).heap.size) (some ⟨(wr).heap.size, 0, none⟩) [((k, m) : Int × Int)] :=
          sl_one2 tBal (x := (k, m)) rfl (blk_new (wr) _) ⟨fun e => by have := (HO.out.lt _ e.symm).2; omega, by simp⟩ (bal_mk (k, m) GK.out GM.out)
        have hadr : (⟨(wr).heap.size, 0, none⟩ : Addr) = ⟨wr.heap.size, 0, none⟩ := by first | rfl | simp
        first | rw [hadr] at hsl0 | skip
        have HSL := Lib.hid hsl0
        clear hsl0 hadr
        have h63 : (out).length + [((k, m) : Int × Int)].length ≤ maxLen := by have := HLN.out; simp only [List.length_cons, List.length_nil, List.length_append]; unfold maxLen; omega
        have hby : ((out).length + [((k, m) : Int × Int)].length) * 16 ≤ 140737488355328 := by have := HLN.out; simp only [List.length_cons, List.length_nil, List.length_append]; omega
        go_wp2_with (at_builtin; refine wp_app (T := tBal) rfl _ _ 49 rfl i0 (.agg #[.int .i64 0, .int .i64 0]) 16 Tryz.underlying49 hi hz0 hz1 hz2 rfl (by decide) bal_one w.heap.size vo (out) rfl HOA.out ⟨wr.heap.size, 0, none⟩ 1 [((k, m) : Int × Int)] rfl HSL.out h63 hby HBA.out.size ?_; intro v3 w3 hown hg hnil hat; have HO3 := Lib.hid hown; have HB3 := Lib.hid (Below.grown HBA.out hg HBA.out.size (fun k e => (HOA.out.lt k e).1)); skip; clear hown hg hnil hat)
        go_ret
        rw [HR.out]
        exact ⟨_, rfl, HO3.out, HB3.out⟩
      · have HR : Hid (putL l k m = out) := Lib.hid (by unfold putL; rw [HFIN.out]; rfl)
        go_wp2_with fail
        go_ret
        rw [HR.out]
        exact ⟨_, rfl, HO.out, HB.out⟩
end Go.Proofs.YtgggpaacagbmcaaGreat
