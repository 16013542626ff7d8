/- The document's balances: those that are not 0; those of a kind, and their sum; what is left. -/
import Derived.Test.YtbgkladgeijgdaaGreatX24GroupOne
import Derived.Test.YtbgkladgeijgdaaGreatX19GroupOne
set_option linter.unusedVariables false
set_option linter.unusedSimpArgs false
namespace Go.Proofs.YtbgkladgeijgdaaGreat
open Go.RowKit Go.Maps Go.Deep

def nzB (x : Int × Int) : Bool := x.2 != 0
def plainT (l : List (Int × Int)) : List (Int × Int) × Bool := if l.all (fun x => fitsB x.2) then (l.filter nzB, true) else ([], false)

set_option maxHeartbeats 8000000 in
set_option maxRecDepth 100000 in
theorem r10Plain_any (l : List (Int × Int)) (a : Option Addr) (cap : Nat) (w : World) {F : Nat → Prop} (hs : Sl tBal w F a l) (hl : l.length ≤ 10000) :
    Calls Tryz.prog 33 #[.slice a l.length cap] w fun en w' => ∃ v, en = .returned (.tuple #[v, .bool (plainT l).2]) ∧ OwnL tBal w' w.heap.size v (plainT l).1 ∧ Below w.heap.size w w' := by
  have HS := Lib.hid hs
  clear hs
  obtain ⟨i0, hi, hz0, hz1, hz2⟩ := info_parts infoBal
  go_enter Tryz.func33, Tryz.ntmps33
  go_wp2_with fail
  go_loopw [4, 5] (fun vo vi wr => ∃ (n : Nat) (vx : Value), vx = vo ∧ n ≤ l.length ∧ vi = .int .i64 n ∧ Hid ((l.take n).all (fun x => fitsB x.2) = true) ∧ OwnL tBal wr w.heap.size vx ((l.take n).filter nzB) ∧ Below w.heap.size w wr) (fun _ vi _ => l.length - (intOf vi).toNat)
  case atStart => exact ⟨0, _, rfl, Nat.zero_le _, rfl, Lib.hid rfl, OwnL.nil _ _, Below.refl _ _⟩
  case round =>
    obtain ⟨n, vo, rfl, hn, rfl, hall, ho, hb⟩ := hrel
    have HO := Lib.hid ho
    have HB := Lib.hid hb
    clear ho hb
    by_cases hlt : n < l.length
    · obtain ⟨ad, rfl, _, hadl, hc0, hc1, g0, g1⟩ := bal_at (Sl.keep (fun k hk _ => HB.out.block k hk) HS.out) n hlt
      have HA := Lib.hid (all_take_succ (fun x : Int × Int => fitsB x.2) l n hlt)
      have HY := Lib.hid (fun h => filter_yes nzB hlt h)
      have HN := Lib.hid (fun h => filter_no nzB hlt h)
      have HLN : Hid (((l.take n).filter nzB).length ≤ 20000) := Lib.hid (by
        have := List.length_filter_le nzB (l.take n)
        rw [List.length_take] at this
        omega)
      have HNO : Hid (fitsB l[n].2 = false → plainT l = ([], false)) := Lib.hid (fun h => by
        unfold plainT
        have : l.all (fun x => fitsB x.2) = false := by
          rw [List.all_eq_false]
          exact ⟨_, List.getElem_mem hlt, by rw [h]; decide⟩
        rw [this]
        rfl)
      generalize l[n] = x at *
      obtain ⟨k, v⟩ := x
      simp only at hc0 hc1 g0 g1 HNO
      have G0 := Lib.hid g0
      have G1 := Lib.hid g1
      clear g0 g1
      go_wp2_with fail
      refine (rfits_any v wr).mono ?_
      rintro en w2 ⟨rfl, rfl⟩
      cases hf : fitsB v
      · have HP := Lib.hid (HNO.out hf)
        go_wp2_with fail
        go_ret2
        rw [HP.out]
        exact ⟨_, rfl, OwnL.nil _ _, HB.out⟩
      · have HA2 : Hid ((l.take (n + 1)).all (fun x => fitsB x.2) = true) := Lib.hid (by rw [HA.out, hall.out]; exact hf)
        by_cases hv : v = 0
        · subst hv
          have HN2 := Lib.hid (HN.out rfl)
          go_wp2_with fail
          go_roundw
          case rel => exact ⟨n + 1, _, rfl, by omega, by go_num, HA2, by rw [HN2.out]; exact HO.out, HB.out⟩
          case measure => simp [intOf]; omega
        · have hv' : (v != 0) = true := by simpa using hv
          have HY2 := Lib.hid (HY.out hv')
          have HOA := Lib.hid (HO.out.alloc (.cells #[.int .i64 k, .int .i64 v] 62))
          have HBA := Lib.hid (HB.out.alloc HB.out.size (.cells #[.int .i64 k, .int .i64 v] 62))
          have hsl0 : Sl tBal ((w2).alloc (.cells #[.int .i64 k, .int .i64 v] 62)) (fun kk => some kk ≠ (vo).ownBlock ∧ kk < ((w2).alloc (.cells #[.int .i64 k, .int .i64 v] 62)).heap.size) (some ⟨(w2).heap.size, 0, none⟩) [((k, v) : Int × Int)] :=
            sl_one2 tBal (x := (k, v)) rfl (blk_new (w2) _) ⟨fun e => by have := (HO.out.lt _ e.symm).2; omega, by simp⟩ (bal_mk (k, v) G0.out G1.out)
          have hadr : (⟨(w2).heap.size, 0, none⟩ : Addr) = ⟨w2.heap.size, 0, none⟩ := by first | rfl | simp
          first | rw [hadr] at hsl0 | skip
          have HSL := Lib.hid hsl0
          clear hsl0 hadr
          have h63 : ((l.take n).filter nzB).length + [((k, v) : Int × Int)].length ≤ maxLen := by have := HLN.out; simp only [List.length_cons, List.length_nil, List.length_append]; unfold maxLen; omega
          have hby : (((l.take n).filter nzB).length + [((k, v) : Int × Int)].length) * 16 ≤ 140737488355328 := by have := HLN.out; simp only [List.length_cons, List.length_nil, List.length_append]; omega
          go_wp2_with (at_builtin; refine wp_app (T := tBal) rfl _ _ 49 rfl i0 (.agg #[.int .i64 0, .int .i64 0]) 16 Tryz.underlying49 hi hz0 hz1 hz2 rfl (by decide) bal_one w.heap.size vo ((l.take n).filter nzB) rfl HOA.out ⟨w2.heap.size, 0, none⟩ 1 [((k, v) : Int × Int)] rfl HSL.out h63 hby HBA.out.size ?_; intro v3 w3 hown hg hnil hat; have HO3 := Lib.hid hown; have HB3 := Lib.hid (Below.grown HBA.out hg HBA.out.size (fun k e => (HOA.out.lt k e).1)); skip; clear hown hg hnil hat)
          go_roundw
          case rel => exact ⟨n + 1, _, rfl, by omega, by go_num, HA2, by rw [HY2.out]; exact HO3.out, HB3.out⟩
          case measure => simp [intOf]; omega
    · have HP : Hid (plainT l = (l.filter nzB, true)) := Lib.hid (by
        have h := hall.out
        rw [take_all hn hlt] at h
        unfold plainT
        rw [h]
        rfl)
      have hown := HO.out
      rw [take_all hn hlt] at hown
      have HW := Lib.hid hown
      clear hown
      go_wp2_with fail
      go_ret2
      rw [HP.out]
      exact ⟨_, rfl, HW.out, HB.out⟩

/-- a balance, its sign turned or not -/
def turnB (b : Bool) (x : Int × Int) : Int × Int := if b then negB x else x
def kindP (r : List Ac) (kd : Int) (x : Int × Int) : Bool := kindA r x.1 == kd
def pickS (r : List Ac) (l : List (Int × Int)) (kd : Int) (b : Bool) : List (Int × Int) := (l.filter (kindP r kd)).map (turnB b)
theorem pickS_yes (r : List Ac) (l : List (Int × Int)) (kd : Int) (b : Bool) {n : Nat} (hn : n < l.length) (h : kindP r kd l[n] = true) : pickS r (l.take (n + 1)) kd b = pickS r (l.take n) kd b ++ [turnB b l[n]] := by
  unfold pickS
  rw [filter_yes _ hn h, List.map_append]
  rfl
theorem pickS_no (r : List Ac) (l : List (Int × Int)) (kd : Int) (b : Bool) {n : Nat} (hn : n < l.length) (h : kindP r kd l[n] = false) : pickS r (l.take (n + 1)) kd b = pickS r (l.take n) kd b := by
  unfold pickS
  rw [filter_no _ hn h]
theorem pickS_bd (r : List Ac) (kd : Int) (b : Bool) : ∀ (l : List (Int × Int)), (∀ x ∈ l, fitsB x.2 = true) → -(1000000000000000 * (l.length : Int)) ≤ sumI ((pickS r l kd b).map (·.2)) ∧ sumI ((pickS r l kd b).map (·.2)) ≤ 1000000000000000 * (l.length : Int)
  | [], _ => by simp [pickS, sumI]
  | x :: r', h => by
    have ih := pickS_bd r kd b r' (fun y hy => h y (List.mem_cons_of_mem _ hy))
    have hx := h x (List.mem_cons_self ..)
    have hb : -1000000000000000 ≤ x.2 ∧ x.2 ≤ 1000000000000000 := by simpa [fitsB] using hx
    unfold pickS at ih ⊢
    rw [List.filter_cons]
    split
    · simp only [List.map_cons, sumI, List.length_cons]
      have : (turnB b x).2 = x.2 ∨ (turnB b x).2 = -x.2 := by unfold turnB negB; cases b <;> simp
      omega
    · simp only [List.length_cons]
      omega

set_option maxHeartbeats 16000000 in
set_option maxRecDepth 100000 in
theorem r10Pick_any (r : List Ac) (ra : Option Addr) (rc : Nat) (l : List (Int × Int)) (a : Option Addr) (cap : Nat) (kd : Int) (b : Bool) (w : World) {F G : Nat → Prop} (hr : Sl tAc w G ra r) (hrl : r.length ≤ maxLen) (hs : Sl tBal w F a l) (hl : l.length ≤ 1000) (hfit : ∀ x ∈ l, fitsB x.2 = true) :
    Calls Tryz.prog 19 #[.slice ra r.length rc, .slice a l.length cap, .int .i64 kd, .bool b] w fun en w' => ∃ v, en = .returned (.tuple #[v, .int .i64 (sumI ((pickS r l kd b).map (·.2)))]) ∧ OwnL tBal w' w.heap.size v (pickS r l kd b) ∧ Below w.heap.size w w' := by
  have HS := Lib.hid hs
  have HR := Lib.hid hr
  have HF := Lib.hid hfit
  clear hs hr hfit
  obtain ⟨i0, hi, hz0, hz1, hz2⟩ := info_parts infoBal
  go_enter Tryz.func19, Tryz.ntmps19
  go_wp2_with fail
  go_loopw [10, 11, 12] (fun vo vs vi wr => ∃ (n : Nat) (vx : Value), vx = vo ∧ n ≤ l.length ∧ vi = .int .i64 n ∧ vs = .int .i64 (sumI ((pickS r (l.take n) kd b).map (·.2))) ∧ OwnL tBal wr w.heap.size vx (pickS r (l.take n) kd b) ∧ Below w.heap.size w wr) (fun _ _ vi _ => l.length - (intOf vi).toNat)
  case atStart => exact ⟨0, _, rfl, Nat.zero_le _, rfl, rfl, OwnL.nil _ _, Below.refl _ _⟩
  case round =>
    obtain ⟨n, vo, rfl, hn, rfl, rfl, ho, hb⟩ := hrel
    have HO := Lib.hid ho
    have HB := Lib.hid hb
    clear ho hb
    by_cases hlt : n < l.length
    · obtain ⟨ad, rfl, _, hadl, hc0, hc1, g0, g1⟩ := bal_at (Sl.keep (fun k hk _ => HB.out.block k hk) HS.out) n hlt
      have HY := Lib.hid (fun h => pickS_yes r l kd b hlt h)
      have HN := Lib.hid (fun h => pickS_no r l kd b hlt h)
      have HLN : Hid ((pickS r (l.take n) kd b).length ≤ 20000) := Lib.hid (by
        unfold pickS
        rw [List.length_map]
        have := List.length_filter_le (kindP r kd) (l.take n)
        rw [List.length_take] at this
        omega)
      have hbd := pickS_bd r kd b (l.take n) (fun x hx => HF.out x (List.mem_of_mem_take hx))
      rw [List.length_take, Nat.min_eq_left hn] at hbd
      have hfx := HF.out _ (List.getElem_mem hlt)
      generalize l[n] = x at *
      obtain ⟨k, v⟩ := x
      simp only at hc0 hc1 g0 g1 hfx
      have hv : -1000000000000000 ≤ v ∧ v ≤ 1000000000000000 := by simpa [fitsB] using hfx
      have G0 := Lib.hid g0
      have G1 := Lib.hid g1
      have GN : Hid (I64 (-v)) := Lib.hid (i64_ofB (by omega) (by omega))
      obtain ⟨s, hs⟩ : ∃ s, sumI ((pickS r (l.take n) kd b).map (·.2)) = s := ⟨_, rfl⟩
      have HSU := Lib.hid hs
      rw [hs] at hbd ⊢
      have hw1 : wrap64 (s + v) = s + v := by unfold wrap64; omega
      have hw1' : IntKind.i64.wrap (s + v) = s + v := wrap_is (by omega) (by omega)
      have hw2 : wrap64 (s + -v) = s + -v := by unfold wrap64; omega
      have hw2' : IntKind.i64.wrap (s + -v) = s + -v := wrap_is (by omega) (by omega)
      have hw3 : wrap64 (-v) = -v := by unfold wrap64; omega
      have hw3' : IntKind.i64.wrap (-v) = -v := wrap_is (by omega) (by omega)
      clear g0 g1 hfx hs hbd hv
      go_wp2_with fail
      refine (r10kind_any r ra rc k wr (Sl.keep (fun k hk _ => HB.out.block k hk) HR.out) hrl).mono ?_
      rintro en w2 ⟨rfl, hb⟩
      have HB2 := Lib.hid (belows_then HB.out HB.out.size hb)
      have HO2 := Lib.hid (HO.out.below hb)
      have hc0' : w2.cell? (ad.add (n * 2)) = some (.int .i64 k) := by rw [← hc0]; exact World.cell?_of_block (w := wr) (by rw [add_block]; exact hb.block _ hadl)
      have hc1' : w2.cell? ⟨(ad.add (n * 2)).block, (ad.add (n * 2)).off + 1, none⟩ = some (.int .i64 v) := by rw [← hc1]; exact World.cell?_of_block (w := wr) (by show w2.heap[(ad.add (n * 2)).block]? = _; rw [add_block]; exact hb.block _ hadl)
      clear hb hc0 hc1
      have HKP : Hid (kindP r kd (k, v) = (kindA r k == kd)) := Lib.hid rfl
      generalize kindA r k = kk at *
      by_cases hkk : kk = kd
      · subst hkk
        have HY2 := Lib.hid (HY.out (by rw [HKP.out]; simp))
        cases b
        · have HSN : Hid (sumI ((pickS r (l.take (n + 1)) kk false).map (·.2)) = s + v) := Lib.hid (by rw [HY2.out, List.map_append, sumI_app, HSU.out]; simp [sumI, turnB])
          have HOW := Lib.hid (HO2.out.alloc (.cells #[.int .i64 k, .int .i64 v] 62))
          have HBW := Lib.hid (HB2.out.alloc HB2.out.size (.cells #[.int .i64 k, .int .i64 v] 62))
          have HOA := Lib.hid (HOW.out.alloc (.cells #[.int .i64 k, .int .i64 v] 62))
          have HBA := Lib.hid (HBW.out.alloc HBW.out.size (.cells #[.int .i64 k, .int .i64 v] 62))
          have hsl0 : Sl tBal ((w2.alloc (.cells #[.int .i64 k, .int .i64 v] 62)).alloc (.cells #[.int .i64 k, .int .i64 v] 62)) (fun kk => some kk ≠ (vo).ownBlock ∧ kk < ((w2.alloc (.cells #[.int .i64 k, .int .i64 v] 62)).alloc (.cells #[.int .i64 k, .int .i64 v] 62)).heap.size) (some ⟨(w2.alloc (.cells #[.int .i64 k, .int .i64 v] 62)).heap.size, 0, none⟩) [((k, v) : Int × Int)] :=
            sl_one2 tBal (x := (k, v)) rfl (blk_new (w2.alloc (.cells #[.int .i64 k, .int .i64 v] 62)) _) ⟨fun e => by have := (HOW.out.lt _ e.symm).2; omega, by simp⟩ (bal_mk (k, v) G0.out G1.out)
          have hadr : (⟨(w2.alloc (.cells #[.int .i64 k, .int .i64 v] 62)).heap.size, 0, none⟩ : Addr) = ⟨w2.heap.size + 1, 0, none⟩ := by first | rfl | simp
          first | rw [hadr] at hsl0 | skip
          have HSL := Lib.hid hsl0
          clear hsl0 hadr
          have h63 : (pickS r (l.take n) kk false).length + [((k, v) : Int × Int)].length ≤ maxLen := by have := HLN.out; simp only [List.length_cons, List.length_nil, List.length_append]; unfold maxLen; omega
          have hby : ((pickS r (l.take n) kk false).length + [((k, v) : Int × Int)].length) * 16 ≤ 140737488355328 := by have := HLN.out; simp only [List.length_cons, List.length_nil, List.length_append]; omega
          go_wp2_with (at_builtin; refine wp_app (T := tBal) rfl _ _ 49 rfl i0 (.agg #[.int .i64 0, .int .i64 0]) 16 Tryz.underlying49 hi hz0 hz1 hz2 rfl (by decide) bal_one w.heap.size vo (pickS r (l.take n) kk false) rfl HOA.out ⟨w2.heap.size + 1, 0, none⟩ 1 [((k, v) : Int × Int)] rfl HSL.out h63 hby HBA.out.size ?_; intro v3 w3 hown hg hnil hat; have HO3 := Lib.hid hown; have HB3 := Lib.hid (Below.grown HBA.out hg HBA.out.size (fun k e => (HOA.out.lt k e).1)); have HX3 : Hid (w3.heap[w2.heap.size]? = some (.cells #[.int .i64 k, .int .i64 v] 62 (0, 0))) := Lib.hid ((hg.block w2.heap.size (by simp; omega) (fun e => by have := (HO2.out.lt _ e.symm).2; omega)).trans (blk_alloc (blk_new w2 _) _)); have hc3 := blk_cells HX3.out; have hl3 := blk_lt HX3.out; clear hown hg hnil hat)
          go_roundw
          case rel => exact ⟨n + 1, _, rfl, by omega, by go_num, by rw [HSN.out], by rw [HY2.out]; exact HO3.out, HB3.out⟩
          case measure => simp [intOf]; omega
        · have HSN : Hid (sumI ((pickS r (l.take (n + 1)) kk true).map (·.2)) = s + -v) := Lib.hid (by rw [HY2.out, List.map_append, sumI_app, HSU.out]; simp [sumI, turnB, negB])
          have HOW := Lib.hid (HO2.out.alloc (.cells #[.int .i64 k, .int .i64 (-v)] 62))
          have HBW := Lib.hid (HB2.out.alloc HB2.out.size (.cells #[.int .i64 k, .int .i64 (-v)] 62))
          have HOA := Lib.hid (HOW.out.alloc (.cells #[.int .i64 k, .int .i64 (-v)] 62))
          have HBA := Lib.hid (HBW.out.alloc HBW.out.size (.cells #[.int .i64 k, .int .i64 (-v)] 62))
          have hsl0 : Sl tBal ((w2.alloc (.cells #[.int .i64 k, .int .i64 (-v)] 62)).alloc (.cells #[.int .i64 k, .int .i64 (-v)] 62)) (fun kk => some kk ≠ (vo).ownBlock ∧ kk < ((w2.alloc (.cells #[.int .i64 k, .int .i64 (-v)] 62)).alloc (.cells #[.int .i64 k, .int .i64 (-v)] 62)).heap.size) (some ⟨(w2.alloc (.cells #[.int .i64 k, .int .i64 (-v)] 62)).heap.size, 0, none⟩) [((k, (-v)) : Int × Int)] :=
            sl_one2 tBal (x := (k, (-v))) rfl (blk_new (w2.alloc (.cells #[.int .i64 k, .int .i64 (-v)] 62)) _) ⟨fun e => by have := (HOW.out.lt _ e.symm).2; omega, by simp⟩ (bal_mk (k, (-v)) G0.out GN.out)
          have hadr : (⟨(w2.alloc (.cells #[.int .i64 k, .int .i64 (-v)] 62)).heap.size, 0, none⟩ : Addr) = ⟨w2.heap.size + 1, 0, none⟩ := by first | rfl | simp
          first | rw [hadr] at hsl0 | skip
          have HSL := Lib.hid hsl0
          clear hsl0 hadr
          have h63 : (pickS r (l.take n) kk true).length + [((k, (-v)) : Int × Int)].length ≤ maxLen := by have := HLN.out; simp only [List.length_cons, List.length_nil, List.length_append]; unfold maxLen; omega
          have hby : ((pickS r (l.take n) kk true).length + [((k, (-v)) : Int × Int)].length) * 16 ≤ 140737488355328 := by have := HLN.out; simp only [List.length_cons, List.length_nil, List.length_append]; omega
          go_wp2_with (at_builtin; refine wp_app (T := tBal) rfl _ _ 49 rfl i0 (.agg #[.int .i64 0, .int .i64 0]) 16 Tryz.underlying49 hi hz0 hz1 hz2 rfl (by decide) bal_one w.heap.size vo (pickS r (l.take n) kk true) rfl HOA.out ⟨w2.heap.size + 1, 0, none⟩ 1 [((k, (-v)) : Int × Int)] rfl HSL.out h63 hby HBA.out.size ?_; intro v3 w3 hown hg hnil hat; have HO3 := Lib.hid hown; have HB3 := Lib.hid (Below.grown HBA.out hg HBA.out.size (fun k e => (HOA.out.lt k e).1)); have HX3 : Hid (w3.heap[w2.heap.size]? = some (.cells #[.int .i64 k, .int .i64 (-v)] 62 (0, 0))) := Lib.hid ((hg.block w2.heap.size (by simp; omega) (fun e => by have := (HO2.out.lt _ e.symm).2; omega)).trans (blk_alloc (blk_new w2 _) _)); have hc3 := blk_cells HX3.out; have hl3 := blk_lt HX3.out; clear hown hg hnil hat)
          go_roundw
          case rel => exact ⟨n + 1, _, rfl, by omega, by go_num, by rw [HSN.out], by rw [HY2.out]; exact HO3.out, HB3.out⟩
          case measure => simp [intOf]; omega
      · have HN2 := Lib.hid (HN.out (by rw [HKP.out]; simpa using hkk))
        have hkk' : (kk != kd) = true := by simpa using hkk
        go_wp2_with fail
        go_roundw
        case rel => exact ⟨n + 1, _, rfl, by omega, by go_num, by rw [HN2.out, HSU.out], by rw [HN2.out]; exact HO2.out, HB2.out⟩
        case measure => simp [intOf]; omega
    · have hown := HO.out
      rw [take_all hn hlt] at hown ⊢
      have HW := Lib.hid hown
      clear hown
      go_wp2_with fail
      go_ret2
      exact ⟨_, rfl, HW.out, HB.out⟩
end Go.Proofs.YtbgkladgeijgdaaGreat
