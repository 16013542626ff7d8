/- The document's balances: an amount put at its account. -/
import Derived.Test.YtbgkladgeijgdaaGreatX24GroupOne
import Derived.Test.YtbgkladgeijgdaaGreatX19GroupOne
set_option linter.unusedVariables false
set_option linter.unusedSimpArgs false
namespace Go.Proofs.YtbgkladgeijgdaaGreat
open Go.RowKit Go.Maps Go.Deep

def pStep (k m : Int) (s : List (Int × Int) × Bool) (x : Int × Int) : List (Int × Int) × Bool :=
  if s.2 then (s.1 ++ [x], true) else if x.1 == k then (s.1 ++ [(x.1, x.2 + m)], true) else if decide (k < x.1) then (s.1 ++ [(k, m)] ++ [x], true) else (s.1 ++ [x], false)
def pFold (k m : Int) (l : List (Int × Int)) : List (Int × Int) × Bool := l.foldl (pStep k m) ([], false)
def putL (l : List (Int × Int)) (k m : Int) : List (Int × Int) := if (pFold k m l).2 then (pFold k m l).1 else (pFold k m l).1 ++ [(k, m)]
theorem pFold_succ (k m : Int) (l : List (Int × Int)) (n : Nat) (hn : n < l.length) : pFold k m (l.take (n + 1)) = pStep k m (pFold k m (l.take n)) l[n] := by
  unfold pFold
  rw [List.take_succ_eq_append_getElem hn, List.foldl_append]
  rfl
theorem pFold_len (k m : Int) : ∀ (l : List (Int × Int)) (s : List (Int × Int) × Bool), (l.foldl (pStep k m) s).1.length ≤ s.1.length + 2 * l.length
  | [], s => by simp
  | x :: r, s => by
    rw [List.foldl_cons]
    refine Nat.le_trans (pFold_len k m r _) ?_
    have : (pStep k m s x).1.length ≤ s.1.length + 2 := by
      unfold pStep
      split
      · simp
      · split
        · simp
        · split <;> simp
    simp only [List.length_cons]
    omega

set_option maxHeartbeats 16000000 in
set_option maxRecDepth 100000 in
theorem r10Put_any (l : List (Int × Int)) (a : Option Addr) (cap : Nat) (k m : Int) (w : World) {F : Nat → Prop} (hs : Sl tBal w F a l) (hl : l.length ≤ 10000) (hk : I64 k) (hm1 : -1000000000000000 ≤ m) (hm2 : m ≤ 1000000000000000) (hbd : ∀ x ∈ l, -8000000000000000000 ≤ x.2 ∧ x.2 ≤ 8000000000000000000) :
    Calls Tryz.prog 32 #[.slice a l.length cap, .int .i64 k, .int .i64 m] w fun en w' => ∃ v, en = .returned v ∧ OwnL tBal w' w.heap.size v (putL l k m) ∧ Below w.heap.size w w' := by
  have HS := Lib.hid hs
  have HBD := Lib.hid hbd
  have GK := Lib.hid hk
  have GM : Hid (I64 m) := Lib.hid (i64_ofB (by omega) (by omega))
  clear hs hbd hk
  obtain ⟨i0, hi, hz0, hz1, hz2⟩ := info_parts infoBal
  go_enter Tryz.func32, Tryz.ntmps32
  go_wp2_with fail
  go_loopw [7, 8, 9] (fun vo vd vi wr => ∃ (n : Nat) (vx : Value) (out : List (Int × Int)) (d : Bool), vx = vo ∧ n ≤ l.length ∧ vi = .int .i64 n ∧ vd = .bool d ∧ Hid (pFold k m (l.take n) = (out, d)) ∧ OwnL tBal wr w.heap.size vx out ∧ Below w.heap.size w wr) (fun _ _ vi _ => l.length - (intOf vi).toNat)
  case atStart => exact ⟨0, _, [], false, rfl, Nat.zero_le _, rfl, rfl, Lib.hid rfl, OwnL.nil _ _, Below.refl _ _⟩
  case round =>
    obtain ⟨n, vo, out, d, rfl, hn, rfl, rfl, hst, ho, hb⟩ := hrel
    have HO := Lib.hid ho
    have HB := Lib.hid hb
    clear ho hb
    have HLN : Hid (out.length ≤ 20000) := Lib.hid (by
      have := pFold_len k m (l.take n) ([], false)
      have h2 := hst.out
      unfold pFold at h2
      rw [h2, List.length_take] at this
      simp only [List.length_nil] at this
      omega)
    by_cases hlt : n < l.length
    · obtain ⟨ad, rfl, _, hadl, hc0, hc1, g0, g1⟩ := bal_at (Sl.keep (fun k hk _ => HB.out.block k hk) HS.out) n hlt
      have HN0 := Lib.hid (pFold_succ k m l n hlt)
      rw [hst.out] at HN0
      have hbx := HBD.out _ (List.getElem_mem hlt)
      generalize l[n] = x at *
      obtain ⟨x1, x2⟩ := x
      simp only at hc0 hc1 g0 g1 hbx
      have G0 := Lib.hid g0
      have G1 := Lib.hid g1
      have hwm : wrap64 (x2 + m) = x2 + m := by unfold wrap64; omega
      have hwm' : IntKind.i64.wrap (x2 + m) = x2 + m := wrap_is (by omega) (by omega)
      have GS : Hid (I64 (x2 + m)) := Lib.hid (i64_ofB (by omega) (by omega))
      clear g0 g1 hbx
      cases d
      · have hcs : (x1 == k) = true ∨ (x1 == k) = false ∧ (k < x1 ∨ x1 < k) := by
          by_cases h : x1 = k
          · exact .inl (by simpa using h)
          · exact .inr ⟨by simpa using h, by omega⟩
        rcases hcs with h1 | ⟨h1, h2 | h2⟩
        · have HN : Hid (pFold k m (l.take (n + 1)) = (out ++ [(x1, x2 + m)], true)) := Lib.hid (by rw [HN0.out]; unfold pStep; simp only [Bool.false_eq_true, if_false, h1, if_true])
          have HOW := Lib.hid (HO.out.alloc (.cells #[.int .i64 x1, .int .i64 (x2 + m)] 62))
          have HBW := Lib.hid (HB.out.alloc HB.out.size (.cells #[.int .i64 x1, .int .i64 (x2 + m)] 62))
          have HOA := Lib.hid (HOW.out.alloc (.cells #[.int .i64 x1, .int .i64 (x2 + m)] 62))
          have HBA := Lib.hid (HBW.out.alloc HBW.out.size (.cells #[.int .i64 x1, .int .i64 (x2 + m)] 62))
          have hsl0 : Sl tBal ((wr.alloc (.cells #[.int .i64 x1, .int .i64 (x2 + m)] 62)).alloc (.cells #[.int .i64 x1, .int .i64 (x2 + m)] 62)) (fun kk => some kk ≠ (vo).ownBlock ∧ kk < ((wr.alloc (.cells #[.int .i64 x1, .int .i64 (x2 + m)] 62)).alloc (.cells #[.int .i64 x1, .int .i64 (x2 + m)] 62)).heap.size) (some ⟨(wr.alloc (.cells #[.int .i64 x1, .int .i64 (x2 + m)] 62)).heap.size, 0, none⟩) [((x1, (x2 + m)) : Int × Int)] :=
            sl_one2 tBal (x := (x1, (x2 + m))) rfl (blk_new (wr.alloc (.cells #[.int .i64 x1, .int .i64 (x2 + m)] 62)) _) ⟨fun e => by have := (HOW.out.lt _ e.symm).2; omega, by simp⟩ (bal_mk (x1, (x2 + m)) G0.out GS.out)
          have hadr : (⟨(wr.alloc (.cells #[.int .i64 x1, .int .i64 (x2 + m)] 62)).heap.size, 0, none⟩ : Addr) = ⟨wr.heap.size + 1, 0, none⟩ := by first | rfl | simp
          first | rw [hadr] at hsl0 | skip
          have HSL := Lib.hid hsl0
          clear hsl0 hadr
          have h63 : (out).length + [((x1, (x2 + m)) : Int × Int)].length ≤ maxLen := by have := HLN.out; simp only [List.length_cons, List.length_nil, List.length_append]; unfold maxLen; omega
          have hby : ((out).length + [((x1, (x2 + m)) : Int × Int)].length) * 16 ≤ 140737488355328 := by have := HLN.out; simp only [List.length_cons, List.length_nil, List.length_append]; omega
          go_wp2_with (at_builtin; refine wp_app (T := tBal) rfl _ _ 49 rfl i0 (.agg #[.int .i64 0, .int .i64 0]) 16 Tryz.underlying49 hi hz0 hz1 hz2 rfl (by decide) bal_one w.heap.size vo (out) rfl HOA.out ⟨wr.heap.size + 1, 0, none⟩ 1 [((x1, (x2 + m)) : Int × Int)] rfl HSL.out h63 hby HBA.out.size ?_; intro v3 w3 hown hg hnil hat; have HO3 := Lib.hid hown; have HB3 := Lib.hid (Below.grown HBA.out hg HBA.out.size (fun k e => (HOA.out.lt k e).1)); skip; clear hown hg hnil hat)
          go_roundw
          case rel => exact ⟨n + 1, _, _, true, rfl, by omega, by go_num, rfl, HN, HO3.out, HB3.out⟩
          case measure => simp [intOf]; omega
        · have HN : Hid (pFold k m (l.take (n + 1)) = (out ++ [(k, m)] ++ [(x1, x2)], true)) := Lib.hid (by rw [HN0.out]; unfold pStep; simp only [Bool.false_eq_true, if_false, h1, h2, decide_true, if_true])
          have HOW := Lib.hid (HO.out.alloc (.cells #[.int .i64 x1, .int .i64 x2] 62))
          have HBW := Lib.hid (HB.out.alloc HB.out.size (.cells #[.int .i64 x1, .int .i64 x2] 62))
          have HOA := Lib.hid (HOW.out.alloc (.cells #[.int .i64 k, .int .i64 m] 62))
          have HBA := Lib.hid (HBW.out.alloc HBW.out.size (.cells #[.int .i64 k, .int .i64 m] 62))
          have HSL : Hid (Sl tBal ((wr.alloc (.cells #[.int .i64 x1, .int .i64 x2] 62)).alloc (.cells #[.int .i64 k, .int .i64 m] 62)) (fun kk => some kk ≠ vo.ownBlock ∧ kk < ((wr.alloc (.cells #[.int .i64 x1, .int .i64 x2] 62)).alloc (.cells #[.int .i64 k, .int .i64 m] 62)).heap.size) (some ⟨wr.heap.size + 1, 0, none⟩) [((k, m) : Int × Int)]) :=
            Lib.hid (sl_one2 tBal (x := (k, m)) rfl (by have := blk_new (wr.alloc (.cells #[.int .i64 x1, .int .i64 x2] 62)) (.cells #[.int .i64 k, .int .i64 m] 62); simpa using this) ⟨fun e => by have := (HO.out.lt _ e.symm).2; omega, by simp⟩ (bal_mk (k, m) GK.out GM.out))
          have h63 : out.length + [((k, m) : Int × Int)].length ≤ maxLen := by have := HLN.out; simp only [List.length_cons, List.length_nil]; unfold maxLen; omega
          have hby : (out.length + [((k, m) : Int × Int)].length) * 16 ≤ 140737488355328 := by have := HLN.out; simp only [List.length_cons, List.length_nil]; omega
          have h63b : (out ++ [((k, m) : Int × Int)]).length + [((x1, x2) : Int × Int)].length ≤ maxLen := by have := HLN.out; simp only [List.length_cons, List.length_nil, List.length_append]; unfold maxLen; omega
          have hbyb : ((out ++ [((k, m) : Int × Int)]).length + [((x1, x2) : Int × Int)].length) * 16 ≤ 140737488355328 := by have := HLN.out; simp only [List.length_cons, List.length_nil, List.length_append]; omega
          go_wp2_with (first
            | (at_builtin; refine wp_app (T := tBal) rfl _ _ 49 rfl i0 (.agg #[.int .i64 0, .int .i64 0]) 16 Tryz.underlying49 hi hz0 hz1 hz2 rfl (by decide) bal_one w.heap.size vo out rfl HOA.out ⟨wr.heap.size + 1, 0, none⟩ 1 [((k, m) : Int × Int)] rfl HSL.out h63 hby HBA.out.size ?_; intro v3 w3 hown hg hnil hat; have HO3 := Lib.hid hown; have HB3 := Lib.hid (Below.grown HBA.out hg HBA.out.size (fun k e => (HOA.out.lt k e).1)); have HX3 : Hid (w3.heap[wr.heap.size]? = some (.cells #[.int .i64 x1, .int .i64 x2] 62 (0, 0))) := Lib.hid ((hg.block wr.heap.size (by simp; omega) (fun e => by have := (HO.out.lt _ e.symm).2; omega)).trans (blk_alloc (blk_new wr _) _)); have hc3 := blk_cells HX3.out; have hl3 := blk_lt HX3.out; clear hown hg hnil hat)
            | (at_builtin; refine wp_app (T := tBal) rfl _ _ 49 rfl i0 (.agg #[.int .i64 0, .int .i64 0]) 16 Tryz.underlying49 hi hz0 hz1 hz2 rfl (by decide) bal_one w.heap.size v3 (out ++ [((k, m) : Int × Int)]) rfl (HO3.out.alloc (.cells #[.int .i64 x1, .int .i64 x2] 62)) ⟨w3.heap.size, 0, none⟩ 1 [((x1, x2) : Int × Int)] rfl (sl_one2 tBal (x := (x1, x2)) rfl (blk_new w3 _) ⟨fun e => by have := (HO3.out.lt _ e.symm).2; omega, by simp⟩ (bal_mk (x1, x2) G0.out G1.out)) h63b hbyb (HB3.out.alloc HB3.out.size (.cells #[.int .i64 x1, .int .i64 x2] 62)).size ?_; intro v4 w4 hown hg hnil hat; have HO4 := Lib.hid hown; have HB4 := Lib.hid (Below.grown (HB3.out.alloc HB3.out.size (.cells #[.int .i64 x1, .int .i64 x2] 62)) hg (HB3.out.alloc HB3.out.size (.cells #[.int .i64 x1, .int .i64 x2] 62)).size (fun k e => (HO3.out.lt k e).1)); clear hown hg hnil hat))
          go_roundw
          case rel => exact ⟨n + 1, _, _, true, rfl, by omega, by go_num, rfl, HN, HO4.out, HB4.out⟩
          case measure => simp [intOf]; omega
        · have hd2 : ¬ k < x1 := by omega
          have HN : Hid (pFold k m (l.take (n + 1)) = (out ++ [(x1, x2)], false)) := Lib.hid (by rw [HN0.out]; unfold pStep; simp only [Bool.false_eq_true, if_false, h1, hd2, decide_false])
          have HOW := Lib.hid (HO.out.alloc (.cells #[.int .i64 x1, .int .i64 x2] 62))
          have HBW := Lib.hid (HB.out.alloc HB.out.size (.cells #[.int .i64 x1, .int .i64 x2] 62))
          clear hd2
          have HOA := Lib.hid (HOW.out.alloc (.cells #[.int .i64 x1, .int .i64 x2] 62))
          have HBA := Lib.hid (HBW.out.alloc HBW.out.size (.cells #[.int .i64 x1, .int .i64 x2] 62))
          have hsl0 : Sl tBal ((wr.alloc (.cells #[.int .i64 x1, .int .i64 x2] 62)).alloc (.cells #[.int .i64 x1, .int .i64 x2] 62)) (fun kk => some kk ≠ (vo).ownBlock ∧ kk < ((wr.alloc (.cells #[.int .i64 x1, .int .i64 x2] 62)).alloc (.cells #[.int .i64 x1, .int .i64 x2] 62)).heap.size) (some ⟨(wr.alloc (.cells #[.int .i64 x1, .int .i64 x2] 62)).heap.size, 0, none⟩) [((x1, x2) : Int × Int)] :=
            sl_one2 tBal (x := (x1, x2)) rfl (blk_new (wr.alloc (.cells #[.int .i64 x1, .int .i64 x2] 62)) _) ⟨fun e => by have := (HOW.out.lt _ e.symm).2; omega, by simp⟩ (bal_mk (x1, x2) G0.out G1.out)
          have hadr : (⟨(wr.alloc (.cells #[.int .i64 x1, .int .i64 x2] 62)).heap.size, 0, none⟩ : Addr) = ⟨wr.heap.size + 1, 0, none⟩ := by first | rfl | simp
          first | rw [hadr] at hsl0 | skip
          have HSL := Lib.hid hsl0
          clear hsl0 hadr
          have h63 : (out).length + [((x1, x2) : Int × Int)].length ≤ maxLen := by have := HLN.out; simp only [List.length_cons, List.length_nil, List.length_append]; unfold maxLen; omega
          have hby : ((out).length + [((x1, x2) : Int × Int)].length) * 16 ≤ 140737488355328 := by have := HLN.out; simp only [List.length_cons, List.length_nil, List.length_append]; omega
          go_wp2_with (at_builtin; refine wp_app (T := tBal) rfl _ _ 49 rfl i0 (.agg #[.int .i64 0, .int .i64 0]) 16 Tryz.underlying49 hi hz0 hz1 hz2 rfl (by decide) bal_one w.heap.size vo (out) rfl HOA.out ⟨wr.heap.size + 1, 0, none⟩ 1 [((x1, x2) : Int × Int)] rfl HSL.out h63 hby HBA.out.size ?_; intro v3 w3 hown hg hnil hat; have HO3 := Lib.hid hown; have HB3 := Lib.hid (Below.grown HBA.out hg HBA.out.size (fun k e => (HOA.out.lt k e).1)); skip; clear hown hg hnil hat)
          go_roundw
          case rel => exact ⟨n + 1, _, _, false, rfl, by omega, by go_num, rfl, HN, HO3.out, HB3.out⟩
          case measure => simp [intOf]; omega
      · have HN : Hid (pFold k m (l.take (n + 1)) = (out ++ [(x1, x2)], true)) := Lib.hid (by rw [HN0.out]; unfold pStep; rfl)
        have HOW := Lib.hid (HO.out.alloc (.cells #[.int .i64 x1, .int .i64 x2] 62))
        have HBW := Lib.hid (HB.out.alloc HB.out.size (.cells #[.int .i64 x1, .int .i64 x2] 62))
        have HOA := Lib.hid (HOW.out.alloc (.cells #[.int .i64 x1, .int .i64 x2] 62))
        have HBA := Lib.hid (HBW.out.alloc HBW.out.size (.cells #[.int .i64 x1, .int .i64 x2] 62))
        have hsl0 : Sl tBal ((wr.alloc (.cells #[.int .i64 x1, .int .i64 x2] 62)).alloc (.cells #[.int .i64 x1, .int .i64 x2] 62)) (fun kk => some kk ≠ (vo).ownBlock ∧ kk < ((wr.alloc (.cells #[.int .i64 x1, .int .i64 x2] 62)).alloc (.cells #[.int .i64 x1, .int .i64 x2] 62)).heap.size) (some ⟨(wr.alloc (.cells #[.int .i64 x1, .int .i64 x2] 62)).heap.size, 0, none⟩) [((x1, x2) : Int × Int)] :=
          sl_one2 tBal (x := (x1, x2)) rfl (blk_new (wr.alloc (.cells #[.int .i64 x1, .int .i64 x2] 62)) _) ⟨fun e => by have := (HOW.out.lt _ e.symm).2; omega, by simp⟩ (bal_mk (x1, x2) G0.out G1.out)
        have hadr : (⟨(wr.alloc (.cells #[.int .i64 x1, .int .i64 x2] 62)).heap.size, 0, none⟩ : Addr) = ⟨wr.heap.size + 1, 0, none⟩ := by first | rfl | simp
        first | rw [hadr] at hsl0 | skip
        have HSL := Lib.hid hsl0
        clear hsl0 hadr
        have h63 : (out).length + [((x1, x2) : Int × Int)].length ≤ maxLen := by have := HLN.out; simp only [List.length_cons, List.length_nil, List.length_append]; unfold maxLen; omega
        have hby : ((out).length + [((x1, x2) : Int × Int)].length) * 16 ≤ 140737488355328 := by have := HLN.out; simp only [List.length_cons, List.length_nil, List.length_append]; omega
        go_wp2_with (at_builtin; refine wp_app (T := tBal) rfl _ _ 49 rfl i0 (.agg #[.int .i64 0, .int .i64 0]) 16 Tryz.underlying49 hi hz0 hz1 hz2 rfl (by decide) bal_one w.heap.size vo (out) rfl HOA.out ⟨wr.heap.size + 1, 0, none⟩ 1 [((x1, x2) : Int × Int)] rfl HSL.out h63 hby HBA.out.size ?_; intro v3 w3 hown hg hnil hat; have HO3 := Lib.hid hown; have HB3 := Lib.hid (Below.grown HBA.out hg HBA.out.size (fun k e => (HOA.out.lt k e).1)); skip; clear hown hg hnil hat)
        go_roundw
        case rel => exact ⟨n + 1, _, _, true, rfl, by omega, by go_num, rfl, HN, HO3.out, HB3.out⟩
        case measure => simp [intOf]; omega
    · have hfin := hst.out
      rw [take_all hn hlt] at hfin
      have HFIN := Lib.hid hfin
      clear hfin
      cases d
      · have HR : Hid (putL l k m = out ++ [(k, m)]) := Lib.hid (by unfold putL; rw [HFIN.out]; rfl)
        have HOA := Lib.hid (HO.out.alloc (.cells #[.int .i64 k, .int .i64 m] 62))
        have HBA := Lib.hid (HB.out.alloc HB.out.size (.cells #[.int .i64 k, .int .i64 m] 62))
        have hsl0 : Sl tBal ((wr).alloc (.cells #[.int .i64 k, .int .i64 m] 62)) (fun kk => some kk ≠ (vo).ownBlock ∧ kk < ((wr).alloc (.cells #[.int .i64 k, .int .i64 m] 62)).heap.size) (some ⟨(wr).heap.size, 0, none⟩) [((k, m) : Int × Int)] :=
          sl_one2 tBal (x := (k, m)) rfl (blk_new (wr) _) ⟨fun e => by have := (HO.out.lt _ e.symm).2; omega, by simp⟩ (bal_mk (k, m) GK.out GM.out)
        have hadr : (⟨(wr).heap.size, 0, none⟩ : Addr) = ⟨wr.heap.size, 0, none⟩ := by first | rfl | simp
        first | rw [hadr] at hsl0 | skip
        have HSL := Lib.hid hsl0
        clear hsl0 hadr
        have h63 : (out).length + [((k, m) : Int × Int)].length ≤ maxLen := by have := HLN.out; simp only [List.length_cons, List.length_nil, List.length_append]; unfold maxLen; omega
        have hby : ((out).length + [((k, m) : Int × Int)].length) * 16 ≤ 140737488355328 := by have := HLN.out; simp only [List.length_cons, List.length_nil, List.length_append]; omega
        go_wp2_with (at_builtin; refine wp_app (T := tBal) rfl _ _ 49 rfl i0 (.agg #[.int .i64 0, .int .i64 0]) 16 Tryz.underlying49 hi hz0 hz1 hz2 rfl (by decide) bal_one w.heap.size vo (out) rfl HOA.out ⟨wr.heap.size, 0, none⟩ 1 [((k, m) : Int × Int)] rfl HSL.out h63 hby HBA.out.size ?_; intro v3 w3 hown hg hnil hat; have HO3 := Lib.hid hown; have HB3 := Lib.hid (Below.grown HBA.out hg HBA.out.size (fun k e => (HOA.out.lt k e).1)); skip; clear hown hg hnil hat)
        go_ret
        rw [HR.out]
        exact ⟨_, rfl, HO3.out, HB3.out⟩
      · have HR : Hid (putL l k m = out) := Lib.hid (by unfold putL; rw [HFIN.out]; rfl)
        go_wp2_with fail
        go_ret
        rw [HR.out]
        exact ⟨_, rfl, HO.out, HB.out⟩
end Go.Proofs.YtbgkladgeijgdaaGreat
