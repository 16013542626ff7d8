/- trial: tell. -/
import Derived.Test.YtapmedcgfnlchaaGreatX16IncomeMonths
import Derived.Test.YtapmedcgfnlchaaGreatX17IncomeMonths
import Derived.OpenShut
set_option linter.unusedVariables false
set_option linter.unusedSimpArgs false
namespace Go.Proofs.YtapmedcgfnlchaaGreat
open Go.RowKit Go.Maps

abbrev pairV (x : Int × Int) : List Value := [.int .i64 x.1, .int .i64 x.2]
theorem two_cells {cs : List Value} (h : cs.length = 2) : ∃ c0 c1, cs = [c0, c1] := by
  match cs, h with
  | [c0, c1], _ => exact ⟨c0, c1, rfl⟩
set_option maxRecDepth 100000 in
theorem pair_of {H : Type} {enc : TypeId × Value → H} {w : World} {fuel : Nat} {cs : List Value} {d : DataW H} {ps : List MemPlace}
    (h1 : DataW.trod enc Tryz.prog w 0 (fun _ => true) true fuel 116 cs = some (d, ps)) : ∃ x : Int × Int, cs = pairV x ∧ I64 x.1 ∧ I64 x.2 := by
  obtain ⟨xs, m, _, _, hl, hxl, hel⟩ := DataW.trod_array Tryz.underlying116 h1
  have h1c : Tryz.prog.cellsOf 3 = 1 := by kernel_rfl
  have h2c : Tryz.prog.cellsOf 116 = 2 := by kernel_rfl
  rw [h2c] at hl
  obtain ⟨c0, c1, rfl⟩ := two_cells hl
  have e0 := hel 0 (by omega)
  have e1 := hel 1 (by omega)
  rw [h1c] at e0 e1
  simp only [Nat.zero_mul, Nat.one_mul, List.drop_zero, List.take_succ_cons, List.take_zero, List.drop_succ_cons] at e0 e1
  rw [List.getElem?_eq_getElem (by omega)] at e0 e1
  obtain ⟨x0, hx0, _, w0⟩ := DataW.trod_int Tryz.underlying3 e0
  obtain ⟨x1, hx1, _, w1⟩ := DataW.trod_int Tryz.underlying3 e1
  simp only [List.cons.injEq, and_true] at hx0 hx1
  subst hx0
  subst hx1
  exact ⟨(x0, x1), rfl, w0, w1⟩
def tPair : Ty Tryz.prog 116 (Int × Int) where
  n := 2
  R := fun _ _ cs x => cs = pairV x ∧ I64 x.1 ∧ I64 x.2
  hn := by kernel_rfl
  len := by rintro _ _ _ _ ⟨rfl, _⟩; rfl
  keep := fun _ h => h
  mono := fun _ h => h
  of := fun h1 _ => pair_of h1
theorem pair_free (w : World) (F G : Nat → Prop) (c : List Value) (x : Int × Int) (h : tPair.R w F c x) : tPair.R w G c x := h
theorem pair_one (w : World) (F : Nat → Prop) (c : List Value) (x : Int × Int) (h : tPair.R w F c x) : ∀ u ∈ c, u.oneCell' = true := by
  obtain ⟨rfl, _⟩ := h
  simp [Value.oneCell']
theorem infoPair : (Tryz.prog.info? 116).map (fun i => (i.zero, i.size, i.bytes)) = some (some (.agg #[.int .i64 0, .int .i64 0]), 2, 16) := by kernel_rfl
theorem pair_at {w : World} {F : Nat → Prop} {a : Option Addr} {l : List (Int × Int)} (h : Sl tPair w F a l) (i : Nat) (hi : i < l.length) :
    ∃ ad, a = some ad ∧ F ad.block ∧ ad.block < w.heap.size ∧ w.cell? (ad.add (i * 2)) = some (.int .i64 l[i].1) ∧ w.cell? ⟨(ad.add (i * 2)).block, (ad.add (i * 2)).off + 1, none⟩ = some (.int .i64 l[i].2) ∧ I64 l[i].1 ∧ I64 l[i].2 := by
  obtain ⟨ad, ces, rfl, hf, hlt, hc, rfl, h1, h2⟩ := h i l[i] (List.getElem?_eq_getElem hi)
  rw [show tPair.n = 2 from rfl] at hc
  refine ⟨ad, rfl, hf, hlt, ?_, ?_, h1, h2⟩
  · have := hc 0 _ rfl
    simpa [Addr.add] using this
  · have := hc 1 _ rfl
    rw [Addr.add] at this
    simpa using this
theorem infoInt : (Tryz.prog.info? 3).map (fun i => (i.zero, i.size, i.bytes)) = some (some (.int .i64 0), 1, 8) := by kernel_rfl
theorem eq_pair (x1 x2 y1 y2 : Int) (w : World) : (Op.equalIn 10000 116 (.agg #[.int .i64 x1, .int .i64 x2]) (.agg #[.int .i64 y1, .int .i64 y2])).run Tryz.prog w = .ok (x1 == y1 && x2 == y2) w := by
  obtain ⟨i0, hi, _⟩ := info_parts infoInt
  have hc : Tryz.prog.cellsOf 3 = 1 := by kernel_rfl
  rw [show (10000 : Nat) = 9999 + 1 from rfl, run_equalIn_array w 9999 _ _ Tryz.underlying116 hi, hc]
  simp only [List.range, List.range.loop, Op.eqItems]
  cases h1 : x1 == y1 <;> cases h2 : x2 == y2 <;> simp [go_sem, h1, h2]
/-- one element of two whole numbers in a block, as append takes it -/
theorem sl_one2 {P : Program} {t : TypeId} (T : Ty P t (Int × Int)) {w : World} {F : Nat → Prop} {b : Nat} {x : Int × Int} (hn : T.n = 2) (hb : w.heap[b]? = some (.cells #[.int .i64 x.1, .int .i64 x.2] t (0, 0))) (hF : F b) (hr : T.R w F (pairV x) x) :
    Sl T w F (some ⟨b, 0, none⟩) [x] := by
  intro i y hi
  cases i with
  | succ i => simp at hi
  | zero =>
    simp at hi
    subst hi
    refine ⟨_, pairV x, rfl, hF, (Array.getElem?_eq_some_iff.1 hb).1, fun k u hu => ?_, hr⟩
    rw [Nat.zero_mul, Go.Addr.add_add, Nat.zero_add]
    have : (⟨b, 0, none⟩ : Addr).add k = ⟨b, k, none⟩ := by unfold Addr.add; split <;> simp_all
    rw [this, cell_of_row w b k _ t (0, 0) hb]
    simpa using hu

def tellK (s : List (Int × Int)) (k : Int) : List (Int × Int) := if at0 s k == 0 then [] else [(k, at0 s k)]
def tellS (s : List (Int × Int)) : List (Int × Int) := (srt (s.map (·.1))).flatMap (tellK s)
theorem flat_succ {α β : Type} (f : α → List β) (l : List α) (n : Nat) (hn : n < l.length) : (l.take (n + 1)).flatMap f = (l.take n).flatMap f ++ f l[n] := by
  rw [List.take_succ_eq_append_getElem hn, List.flatMap_append]
  simp
theorem flat_len1 {α β : Type} (f : α → List β) (hf : ∀ x, (f x).length ≤ 1) : ∀ (l : List α), (l.flatMap f).length ≤ l.length
  | [] => by simp
  | x :: r => by
    rw [List.flatMap_cons, List.length_append, List.length_cons]
    have := flat_len1 f hf r
    have := hf x
    omega
theorem tellK_len (s : List (Int × Int)) (k : Int) : (tellK s k).length ≤ 1 := by
  unfold tellK
  split <;> simp
theorem tellS_len (s : List (Int × Int)) : (tellS s).length ≤ s.length := by
  unfold tellS
  refine Nat.le_trans (flat_len1 _ (tellK_len s) _) ?_
  rw [srt_len, List.length_map]
  exact Nat.le_refl _
theorem at0_val {s : List (Int × Int)} (h : ∀ x ∈ s, I64 x.2) (k : Int) : I64 (at0 s k) := by
  unfold at0 look
  cases hf : s.find? (fun x => x.1 = k) with
  | none => decide
  | some x => exact h x (List.mem_of_find?_eq_some hf)

def TellPost (w : World) (r : List (Int × Int)) (e : Ending) (w' : World) : Prop := ∃ v, e = .returned v ∧ OwnL tPair w' w.heap.size v r ∧ Below w.heap.size w w'

set_option maxHeartbeats 8000000 in
set_option maxRecDepth 100000 in
theorem tell_any {w : World} {b : Nat} {s : List (Int × Int)} (hM : MapIs mInt (Value.int .i64) w b s) (hs : s.length ≤ 100000) (hv : ∀ x ∈ s, I64 x.2) :
    Calls Tryz.prog 61 #[.map (some b)] w (TellPost w (tellS s)) := by
  have hbl := hM.lt
  have HM := Lib.hid hM
  have HV := Lib.hid hv
  have hM1 : MapIs mInt (Value.int .i64) (w.alloc (.cells #[.map (some b)] 111)) b s := hM.keep (Below.heap_alloc w _ b hbl)
  have HC := Lib.hid (sortedS w.heap.size b s (w.alloc (.cells #[.map (some b)] 111)) (by simp) (by rw [blk_cells (blk_new w (.cells #[.map (some b)] 111)) 0]; rfl) hM1 (by omega))
  clear hM hM1 hv
  obtain ⟨i0, hi, hz0, hz1, hz2⟩ := info_parts infoPair
  go_enter Tryz.func61, Tryz.ntmps61
  go_wp2_with fail
  refine (keysfS (some b) w).mono ?_
  rintro en w1 ⟨rfl, rfl⟩
  go_wp2_with fail
  refine HC.out.mono ?_
  rintro en w2 ⟨v, rfl, ho, hb⟩
  have HB2 := Lib.hid (belows_then ((Below.refl w.heap.size w).alloc (Nat.le_refl _) (.cells #[.map (some b)] 111)) (by simp) hb)
  have hkl := srt_len (s.map (·.1))
  rw [List.length_map] at hkl
  obtain ⟨ka, kc, rfl, _, _, hks⟩ := ho.slice
  generalize hke : srt (s.map (·.1)) = ks at hks hkl ⊢
  have HKE := Lib.hid hke
  have HKS := Lib.hid hks
  have hks' : ks.length ≤ 100000 := by omega
  clear ho hb hks hke hkl HC
  go_wp2_with fail
  go_loopw [3, 10] (fun vo vi wr => ∃ (n : Nat) (vx : Value), vx = vo ∧ n ≤ ks.length ∧ vi = .int .i64 n ∧ OwnL tPair wr w2.heap.size vx ((ks.take n).flatMap (tellK s)) ∧ Below w2.heap.size w2 wr) (fun _ vi _ => ks.length - (intOf vi).toNat)
  case atStart => exact ⟨0, _, rfl, Nat.zero_le _, rfl, OwnL.nil _ _, Below.refl _ _⟩
  case round =>
    obtain ⟨n, vo, rfl, hn, rfl, ho, hb⟩ := hrel
    have HO := Lib.hid ho
    have HB1 := Lib.hid hb
    clear ho hb
    by_cases hlt : n < ks.length
    · obtain ⟨ad, rfl, hadl, hc0⟩ := int_at (Sl.keep (fun k hk _ => HB1.out.block k hk) HKS.out) n hlt
      have HKW : Hid (I64 ks[n]) := Lib.hid (by
        have hm : ks[n] ∈ s.map (·.1) := srt_mem.1 (by rw [HKE.out]; exact List.getElem_mem hlt)
        obtain ⟨x, hx, hxe⟩ := List.mem_map.1 hm
        rw [← hxe]
        exact HM.out.oks x hx)
      have hmb : wr.heap[b]? = w.heap[b]? := (HB1.out.block b (Nat.lt_of_lt_of_le hbl HB2.out.size)).trans (HB2.out.block b hbl)
      have hlk := lookI HM.out Tryz.underlying111 HKW.out wr hmb
      have HVW := Lib.hid (at0_val HV.out ks[n])
      have HST := Lib.hid (flat_succ (tellK s) ks n hlt)
      have hlen : ((ks.take n).flatMap (tellK s)).length ≤ 100000 := by
        have := flat_len1 _ (tellK_len s) (ks.take n)
        rw [List.length_take] at this
        omega
      generalize hat : at0 s ks[n] = v at hlk HVW
      have HAT := Lib.hid hat
      clear hat hmb
      cases hv0 : v == 0
      · have hv1 : (v != 0) = true := by simpa using hv0
        have HN : Hid ((ks.take (n + 1)).flatMap (tellK s) = (ks.take n).flatMap (tellK s) ++ [(ks[n], v)]) := Lib.hid (by rw [HST.out]; unfold tellK; rw [HAT.out, hv0]; rfl)
        have HOA := Lib.hid (HO.out.alloc (.cells #[.int .i64 ks[n], .int .i64 v] 116))
        have HBA := Lib.hid (HB1.out.alloc HB1.out.size (.cells #[.int .i64 ks[n], .int .i64 v] 116))
        have HSL : Hid (Sl tPair (wr.alloc (.cells #[.int .i64 ks[n], .int .i64 v] 116)) (fun k => some k ≠ vo.ownBlock ∧ k < (wr.alloc (.cells #[.int .i64 ks[n], .int .i64 v] 116)).heap.size) (some ⟨wr.heap.size, 0, none⟩) [(ks[n], v)]) :=
          Lib.hid (sl_one2 tPair (x := (ks[n], v)) rfl (blk_new wr _) ⟨fun e => by have := (HO.out.lt _ e.symm).2; omega, by simp⟩ ⟨rfl, HKW.out, HVW.out⟩)
        have h63 : ((ks.take n).flatMap (tellK s)).length + [(ks[n], v)].length ≤ maxLen := by simp only [List.length_cons, List.length_nil]; unfold maxLen; omega
        have hby : (((ks.take n).flatMap (tellK s)).length + [(ks[n], v)].length) * 16 ≤ 140737488355328 := by simp only [List.length_cons, List.length_nil]; omega
        clear hv0
        go_wp2_with (at_builtin; refine wp_app (T := tPair) rfl _ _ 109 rfl i0 (.agg #[.int .i64 0, .int .i64 0]) 16 Tryz.underlying109 hi hz0 hz1 hz2 rfl (by decide) pair_one w2.heap.size vo ((ks.take n).flatMap (tellK s)) rfl HOA.out ⟨wr.heap.size, 0, none⟩ 1 [(ks[n], v)] rfl HSL.out h63 hby (by have := HBA.out.size; simp at this; simp; omega) ?_; intro v3 w3 hown hg hnil hat; have HO3 := Lib.hid hown; have HB3 := Lib.hid (Below.grown HBA.out hg HBA.out.size (fun k e => (HOA.out.lt k e).1)); clear hown hg hnil hat)
        go_roundw
        case rel => exact ⟨n + 1, _, rfl, by omega, by go_num, by rw [HN.out]; exact HO3.out, HB3.out⟩
        case measure => simp [intOf]; omega
      · have hv1 : (v != 0) = false := by simpa using hv0
        have HN : Hid ((ks.take (n + 1)).flatMap (tellK s) = (ks.take n).flatMap (tellK s)) := Lib.hid (by rw [HST.out]; unfold tellK; rw [HAT.out, hv0]; simp)
        clear hv0
        go_wp2_with fail
        go_roundw
        case rel => exact ⟨n + 1, _, rfl, by omega, by go_num, by rw [HN.out]; exact HO.out, HB1.out⟩
        case measure => simp [intOf]; omega
    · have HL : Hid (ks.take n = ks) := Lib.hid (take_all hn hlt)
      go_wp2_with fail
      go_ret
      refine ⟨vo, rfl, ?_, belows_then HB2.out HB2.out.size HB1.out⟩
      unfold tellS
      rw [HKE.out]
      have := HO.out.mono HB2.out.size
      rwa [HL.out] at this
end Go.Proofs.YtapmedcgfnlchaaGreat
