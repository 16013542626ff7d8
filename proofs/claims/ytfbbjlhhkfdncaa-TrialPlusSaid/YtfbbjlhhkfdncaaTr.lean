
/- TrialPlus: of every two lists of balances: together each account once, in order, none of 0; in either order the same. -/
import Derived.Test.YtfbbjlhhkfdncaaTq
import Derived.Test.YtfbbjlhhkfdncaaRa
import Derived.Test.YtfbbjlhhkfdncaaTo
import Derived.Maps.RangeWalk
set_option linter.unusedVariables false
set_option linter.unusedSimpArgs false
namespace Go.Proofs.Ytfbbjlhhkfdncaa
open Go.RowKit Go.Maps Go.Deep

/-- a list that is nil has no room -/
def Ty.sliceN {P : Program} {t e : TypeId} {α : Type} (h : P.underlying t = some (.slice e)) (hn : P.cellsOf t = 1) (T : Ty P e α) (hpos : 0 < T.n) : Ty P t (List α) where
  n := 1
  R := fun w F cs xs => (Ty.slice h hn T hpos).R w F cs xs ∧ ∀ n c, cs = [.slice none n c] → c = 0
  hn := hn
  len := fun h0 => (Ty.slice h hn T hpos).len h0.1
  keep := fun hb h0 => ⟨(Ty.slice h hn T hpos).keep hb h0.1, h0.2⟩
  mono := fun hb h0 => ⟨(Ty.slice h hn T hpos).mono hb h0.1, h0.2⟩
  of := by
    intro H enc w fuel cs d ps h1 h2
    obtain ⟨x, hx⟩ := (Ty.slice h hn T hpos).of h1 h2
    refine ⟨x, hx, ?_⟩
    intro n c he
    rcases open_slice h h1 with ⟨rfl, _⟩ | ⟨a, len, cap, m, n, D, Pl, rfl, _⟩
    · simp only [List.cons.injEq, Value.slice.injEq, and_true] at he
      exact he.2.2.symm
    · simp at he
def tBals : Ty Try.prog 50 (List (Int × Int)) := Ty.sliceN Try.underlying50 (by kernel_rfl) tBal (by decide)

theorem OwnL.away {w : World} {base : Nat} {a : Option Addr} {n c : Nat} {xs : List (Int × Int)} {b : Nat} (h : OwnL tBal w base (.slice a n c) xs) (hb : some b ≠ (Value.slice a n c).ownBlock) : Sl tBal w (fun k => k ≠ b) a xs := by
  obtain ⟨a', c', he, _, _, hs⟩ := h.ownF.slice
  have hf := h.ownF.form
  injection he with h1 _ _
  subst h1
  intro i x hx
  obtain ⟨ad, ces, ha, _, hlt, hc, hr⟩ := hs i x hx
  refine ⟨ad, ces, ha, fun e => hb ?_, hlt, hc, bal_free _ _ _ _ _ hr⟩
  rcases hf with ⟨h, _⟩ | ⟨g, cap, h, _⟩
  · injection h with h
    rw [ha] at h
    cases h
  · injection h with h
    rw [h] at ha
    injection ha with ha
    rw [h, ← e, ← ha]
    rfl
theorem Sl.ofw {w w' : World} {a : Option Addr} {xs : List (Int × Int)} {F : Nat → Prop} {v : Value} (h : Sl tBal w F a xs) (hb : ∀ k, k < w.heap.size → w'.heap[k]? = w.heap[k]?) (hs : w.heap.size ≤ w'.heap.size) (hv : ∀ k, v.ownBlock = some k → w.heap.size ≤ k) :
    Sl tBal w' (fun k => some k ≠ v.ownBlock ∧ k < w'.heap.size) a xs := by
  intro i x hx
  obtain ⟨ad, ces, ha, _, hlt, hc, hr⟩ := h i x hx
  refine ⟨ad, ces, ha, ⟨fun e => by have := hv _ e.symm; omega, by omega⟩, by omega, fun j u hu => ?_, ?_⟩
  · rw [← hc j u hu]
    exact World.cell?_of_block (w := w) (by rw [add_block, add_block]; exact hb _ hlt)
  · obtain ⟨rfl, h1, h2⟩ := bal_inv hr
    exact bal_mk _ h1 h2

set_option maxHeartbeats 2000000 in
set_option maxRecDepth 100000 in
theorem plus_early (x y : List (Int × Int)) (a b : Option Addr) (ca cb : Nat) (w : World) (hx : x.length ≤ maxLen) (hy : y.length ≤ maxLen) (h : 30 < x.length ∨ x.length ≤ 30 ∧ 30 < y.length) :
    Calls Try.prog 6 #[.slice a x.length ca, .slice b y.length cb] w fun en w' => en = .returned (.bool true) ∧ Below w.heap.size w w' := by
  have hx' : x.length ≤ 9223372036854775807 := by unfold maxLen at hx; omega
  have hy' : y.length ≤ 9223372036854775807 := by unfold maxLen at hy; omega
  rcases h with h | ⟨h1, h⟩
  all_goals
    go_enter Try.func6, Try.ntmps6
    go_wp2_with fail
    refine (alive10 _).mono ?_
    rintro en w3 ⟨rfl, hb⟩
    go_wp2_with fail
    go_ret
    exact ⟨rfl, hb⟩
theorem wrap_small {n : Int} (h1 : 0 ≤ n) (h2 : n < 9223372036854775807) : IntKind.i64.wrap n = n := by
  have h3 : n % 18446744073709551616 = n := by omega
  have h4 : ¬ 9223372036854775808 ≤ n := by omega
  simp only [IntKind.wrap, IntKind.bits, IntKind.signed, Int.reducePow]
  simp [h3]
  omega
theorem small_no {k v : Int} (h : smallB (k, v) = false) : 1099511627776 < v ∨ v ≤ 1099511627776 ∧ v < -1099511627776 := by
  unfold smallB at h
  simp at h
  omega
theorem small_yes {k v : Int} (h : smallB (k, v) = true) : v ≤ 1099511627776 ∧ -1099511627776 ≤ v := by
  unfold smallB at h
  simp at h
  omega

set_option maxHeartbeats 16000000 in
set_option maxRecDepth 100000 in
theorem plus_main (x y : List (Int × Int)) (a b : Option Addr) (ca cb : Nat) (w : World) {F G : Nat → Prop} (hs : Sl tBal w F a x) (ht : Sl tBal w G b y) (hx : x.length ≤ 30) (hy : y.length ≤ 30) (hna : a = none → x = [] ∧ ca = 0) (hnb : b = none → y = [] ∧ cb = 0) :
    Calls Try.prog 6 #[.slice a x.length ca, .slice b y.length cb] w fun en w' => en = .returned (.bool true) ∧ Below w.heap.size w w' := by
  have HS := Lib.hid hs
  have HT := Lib.hid ht
  have HNA := Lib.hid hna
  have HNB := Lib.hid hnb
  obtain ⟨i0, hi, hz0, hz1, hz2⟩ := info_parts infoBal
  clear hs ht hna hnb
  go_enter Try.func6, Try.ntmps6
  go_wp2_with fail
  refine (alive10 _).mono ?_
  rintro en w3 ⟨rfl, hb⟩
  have HB3 := Lib.hid hb
  have HS3 : Hid (Sl tBal w3 (fun k => some k ≠ (Value.slice none 0 0).ownBlock ∧ k < w3.heap.size) a x) := Lib.hid (Sl.ofw HS.out hb.block hb.size (fun k e => by cases e))
  have HT3 : Hid (Sl tBal w3 (fun k => k < w3.heap.size) b y) := Lib.hid (Sl.mono (fun k hk _ => hk) (Sl.keep (fun k hk _ => hb.block k hk) HT.out))
  have h63a : ([] : List (Int × Int)).length + x.length ≤ maxLen := by simp only [List.length_nil]; unfold maxLen; omega
  have hbya : (([] : List (Int × Int)).length + x.length) * 16 ≤ 140737488355328 := by simp only [List.length_nil]; omega
  have h63b : x.length + y.length ≤ maxLen := by unfold maxLen; omega
  have hbyb : (x.length + y.length) * 16 ≤ 140737488355328 := by omega
  clear hb
  go_wp2_with (first
    | (at_builtin; refine wp_appA (T := tBal) rfl _ _ 50 rfl i0 (.agg #[.int .i64 0, .int .i64 0]) 16 Try.underlying50 hi hz0 hz1 hz2 rfl (by decide) bal_one w3.heap.size (.slice none 0 0) [] rfl (OwnL.nil _ _) a ca x rfl HNA.out HS3.out h63a hbya (Nat.le_refl _) ?_; intro v4 w4 hown hg hat; have HO4 : Hid (OwnL tBal w4 w3.heap.size v4 x) := Lib.hid (by simpa using hown); have HB4 := Lib.hid (Below.grown (Below.refl w3.heap.size w3) hg (Nat.le_refl _) (fun k e => by cases e)); have HT4 := Lib.hid (Sl.ofw (v := v4) HT3.out HB4.out.block HB4.out.size (fun k e => (HO4.out.lt k e).1)); clear hown hg hat)
    | (at_builtin; refine wp_appA (T := tBal) rfl _ _ 50 rfl i0 (.agg #[.int .i64 0, .int .i64 0]) 16 Try.underlying50 hi hz0 hz1 hz2 rfl (by decide) bal_one w3.heap.size v4 x rfl HO4.out b cb y rfl HNB.out HT4.out h63b hbyb HB4.out.size ?_; intro v5 w5 hown hg hat; have HO5 := Lib.hid hown; have HB5 := Lib.hid (Below.grown HB4.out hg HB4.out.size (fun k e => (HO4.out.lt k e).1)); clear hat; obtain ⟨za, zc, rfl, _, _, _⟩ := hown.slice; clear hown hg))
  have hzl : (x ++ y).length ≤ 60 := by rw [List.length_append]; omega
  generalize hz : x ++ y = z at *
  have HZ := Lib.hid hz
  have hN : x.length + y.length = z.length := by rw [← hz, List.length_append]
  have hI : (x.length : Int) + (y.length : Int) = (z.length : Int) := by omega
  have HN2 := Lib.hid hN
  have HI2 := Lib.hid hI
  simp only [hN, hI]
  clear hz hN hI
  go_loopw [36] (fun vi wr => ∃ n : Nat, n ≤ z.length ∧ vi = .int .i64 n ∧ OwnL tBal wr w3.heap.size (.slice za z.length zc) z ∧ Below w3.heap.size w3 wr ∧ Hid ((z.take n).all smallB = true)) (fun vi _ => z.length - (intOf vi).toNat)
  case atStart => exact ⟨0, Nat.zero_le _, rfl, HO5.out, HB5.out, Lib.hid rfl⟩
  case round =>
    obtain ⟨n, hn, rfl, ho, hb, hall⟩ := hrel
    have HO := Lib.hid ho
    have HB := Lib.hid hb
    clear ho hb
    by_cases hlt : n < z.length
    · obtain ⟨ad, rfl, _, hadl, hc0, hc1, g0, g1⟩ := bal_at HO.out.sl n hlt
      have HSA := Lib.hid (all_take_succ smallB z n hlt)
      generalize z[n] = u at *
      obtain ⟨k, v⟩ := u
      simp only at hc0 hc1 g0 g1
      cases hsm : smallB (k, v)
      · rcases small_no hsm with h1 | ⟨h1, h2⟩
        all_goals
          clear hsm
          go_wp2_with fail
          go_ret
          exact ⟨rfl, belows_then HB3.out HB3.out.size (HB.out.alloc HB.out.size _)⟩
      · obtain ⟨h1, h2⟩ := small_yes hsm
        have HN : Hid ((z.take (n + 1)).all smallB = true) := Lib.hid (by rw [HSA.out, hall.out, hsm]; rfl)
        have h3 : ¬ 1099511627776 < v := by omega
        have h4 : ¬ v < -1099511627776 := by omega
        clear hsm
        go_wp2_with fail
        go_roundw
        case rel => exact ⟨n + 1, by omega, by go_num, HO.out.alloc _, HB.out.alloc HB.out.size _, HN⟩
        case measure => simp [intOf]; omega
    · have HSM : Hid (z.all smallB = true) := Lib.hid (by have := hall.out; rwa [take_all hn hlt] at this)
      have hpb := plus_both (x := x) (y := y) (by rw [HZ.out]; exact HSM.out) (by rw [HZ.out]; omega)
      rw [HZ.out] at hpb
      obtain ⟨R, p1, p2, p3, p4⟩ := hpb
      have HP1 : Hid (plusT (x ++ y) = (R, 0)) := Lib.hid (by rw [HZ.out]; exact p1)
      have HP2 := Lib.hid p2
      have HP3 := Lib.hid p3
      have HP4 : Hid (∀ u, u ∈ R ↔ at0 (sumS z) u.1 = u.2 ∧ u.2 ≠ 0) := Lib.hid (fun u => by rw [p4 u, sumS_at _ _ rfl (by omega) HSM.out])
      have hnod : ((sumS z).map (·.1)).Nodup := sumS_keys z [] (by simp)
      have HNOD := Lib.hid hnod
      have HCNT := Lib.hid (plus_count hnod p3 HP4.out)
      have hsl : (sumS z).length ≤ 60 := by have := sumS_len z []; simp only [List.length_nil] at this; unfold sumS; omega
      have hRl : R.length ≤ 60 := by
        rw [HCNT.out]
        unfold cntNZ
        refine Nat.le_trans (List.length_filter_le _ _) ?_
        rw [List.length_map]
        exact hsl
      have HFIT : Hid (∀ u ∈ R, fitsB u.2 = true) := Lib.hid (fun u hu => by
        have h1 := ((HP4.out u).1 hu).1
        rw [sumS_at _ _ rfl (by omega) HSM.out] at h1
        have := (grp_fits HSM.out (by omega) u.1).2
        rwa [h1] at this)
      have HVAL : Hid (∀ k, I64 (at0 (sumS z) k)) := Lib.hid (fun k => by
        unfold at0
        cases hlk : look (sumS z) k with
        | none => decide
        | some v =>
          unfold look at hlk
          rw [Option.map_eq_some_iff] at hlk
          obtain ⟨u, hu, rfl⟩ := hlk
          exact sumS_vals z [] (by simp) u (List.mem_of_find?_eq_some hu))
      have HSW := Lib.hid (Sl.keep (fun k hk _ => (belows_then HB3.out HB3.out.size HB.out).block k hk) (Sl.mono (G := fun _ => True) (fun _ _ _ => trivial) HS.out))
      have HTW := Lib.hid (Sl.keep (fun k hk _ => (belows_then HB3.out HB3.out.size HB.out).block k hk) (Sl.mono (G := fun _ => True) (fun _ _ _ => trivial) HT.out))
      have HBR := Lib.hid (belows_then HB3.out HB3.out.size HB.out)
      clear p1 p2 p3 p4 hnod hall HB
      go_wp2_with fail
      refine (plus_is x y R a b ca cb _ HSW.out HTW.out (by omega) HP1.out).mono ?_
      rintro en w6 ⟨v6, rfl, ho, hb⟩
      have HB6 := Lib.hid (belows_then HBR.out HBR.out.size hb)
      have HSW6 := Lib.hid (Sl.keep (fun k hk _ => hb.block k hk) HSW.out)
      have HTW6 := Lib.hid (Sl.keep (fun k hk _ => hb.block k hk) HTW.out)
      obtain ⟨ra, rc, rfl, _, _, _⟩ := ho.slice
      have HOR := Lib.hid ho
      clear ho hb
      go_wp2_with fail
      refine (plus_is y x R b a cb ca _ HTW6.out HSW6.out (by omega) HP2.out).mono ?_
      rintro en w7 ⟨v7, rfl, ho, hb⟩
      have HB7 := Lib.hid (belows_then HB6.out HB6.out.size hb)
      have HSW7 := Lib.hid (Sl.keep (fun k hk _ => hb.block k hk) HSW6.out)
      have HTW7 := Lib.hid (Sl.keep (fun k hk _ => hb.block k hk) HTW6.out)
      have HOR7 := Lib.hid (HOR.out.below hb)
      obtain ⟨qa, qc, rfl, _, _, hqs⟩ := ho.slice
      have HQS := Lib.hid hqs
      have hRm : R.length ≤ maxLen := by unfold maxLen; omega
      clear ho hb hqs
      go_wp2_with fail
      refine (sameBal_is R R ra qa rc qc _ HOR7.out.sl HQS.out hRm hRm rfl).mono ?_
      rintro en w8 ⟨rfl, hb⟩
      have HB8 := Lib.hid (belows_then HB7.out HB7.out.size hb)
      have HOR8 := Lib.hid (HOR7.out.below hb)
      have HS8 : Hid (Sl tBal w8 (fun _ => True) a x) := Lib.hid (Sl.keep (fun k hk _ => hb.block k hk) HSW7.out)
      have HT8 : Hid (Sl tBal w8 (fun _ => True) b y) := Lib.hid (Sl.keep (fun k hk _ => hb.block k hk) HTW7.out)
      clear hb
      have hmm := @run_makeMap Try.prog
      have HA9 : Hid (Below w8.heap.size w8 (w8.alloc (.map #[] 0))) := Lib.hid ((Below.refl _ _).alloc (Nat.le_refl _) _)
      have HS9 : Hid (Sl tBal (w8.alloc (.map #[] 0)) (fun k => some k ≠ (Value.slice none 0 0).ownBlock ∧ k < (w8.alloc (.map #[] 0)).heap.size) a x) := Lib.hid (Sl.ofw HS8.out HA9.out.block HA9.out.size (fun k e => by cases e))
      have HT9 : Hid (Sl tBal (w8.alloc (.map #[] 0)) (fun k => k < (w8.alloc (.map #[] 0)).heap.size) b y) := Lib.hid (Sl.mono (fun k hk _ => hk) (Sl.keep (fun k hk _ => HA9.out.block k hk) HT8.out))
      go_wp2_with (first
        | (at_builtin; refine wp_appA (T := tBal) rfl _ _ 50 rfl i0 (.agg #[.int .i64 0, .int .i64 0]) 16 Try.underlying50 hi hz0 hz1 hz2 rfl (by decide) bal_one (w8.alloc (.map #[] 0)).heap.size (.slice none 0 0) [] rfl (OwnL.nil _ _) a ca x rfl HNA.out HS9.out h63a hbya (Nat.le_refl _) ?_; intro v10 w10 hown hg hat; have HO10 : Hid (OwnL tBal w10 (w8.alloc (.map #[] 0)).heap.size v10 x) := Lib.hid (by simpa using hown); have HB10 := Lib.hid (Below.grown (Below.refl (w8.alloc (.map #[] 0)).heap.size (w8.alloc (.map #[] 0))) hg (Nat.le_refl _) (fun k e => by cases e)); have HT10 := Lib.hid (Sl.ofw (v := v10) HT9.out HB10.out.block HB10.out.size (fun k e => (HO10.out.lt k e).1)); clear hown hg hat)
        | (at_builtin; refine wp_appA (T := tBal) rfl _ _ 50 rfl i0 (.agg #[.int .i64 0, .int .i64 0]) 16 Try.underlying50 hi hz0 hz1 hz2 rfl (by decide) bal_one (w8.alloc (.map #[] 0)).heap.size v10 x rfl HO10.out b cb y rfl HNB.out HT10.out h63b hbyb HB10.out.size ?_; intro v11 w11 hown hg hat; have HO11 := Lib.hid hown; have HB11 := Lib.hid (Below.grown HB10.out hg HB10.out.size (fun k e => (HO10.out.lt k e).1)); clear hat; obtain ⟨ua, uc, rfl, _, _, _⟩ := hown.slice; clear hown hg))
      clear hmm
      rw [HZ.out] at HO11
      simp only [HN2.out, HI2.out]
      have HM11 : Hid (MapIs mInt (Value.int .i64) w11 w8.heap.size (sumS (z.take 0))) := Lib.hid ((MapIs.new mInt (Value.int .i64) w8).keep (HB11.out.block _ (by simp)))
      have HBW : Hid (Below w.heap.size w w11) := Lib.hid (belows_then (HB8.out.alloc HB8.out.size _) (by have := HB8.out.size; simp; omega) HB11.out)
      have hbmlt : w8.heap.size < w11.heap.size := by have := HB11.out.size; simp at this; omega
      have hb8 := HB8.out.size
      have HOZ := Lib.hid (HO11.out.away (own_map HO11.out HM11.out))
      have HORW := Lib.hid (((HOR8.out.alloc (.map #[] 0)).below HB11.out).away (own_map ((HOR8.out.alloc (.map #[] 0)).below HB11.out) HM11.out))
      generalize hbm : w8.heap.size = bm at *
      clear HA9 HS9 HT9 HO10 HB10 HT10
      go_loopw [79] (fun vi wr => ∃ n : Nat, n ≤ z.length ∧ vi = .int .i64 n ∧ MapIs mInt (Value.int .i64) wr bm (sumS (z.take n)) ∧ But (· = bm) w11 wr) (fun vi _ => z.length - (intOf vi).toNat)
      case atStart => exact ⟨0, Nat.zero_le _, rfl, HM11.out, But.refl _ _⟩
      case round =>
        obtain ⟨n, hn, rfl, hm, hbu⟩ := hrel
        have HM := Lib.hid hm
        have HBU := Lib.hid hbu
        clear hm hbu
        by_cases hlt : n < z.length
        · obtain ⟨ad, rfl, _, hadl, hc0, hc1, g0, g1⟩ := bal_at (Sl.keep (fun k hk hf => HBU.out.block k hk hf) HOZ.out) n hlt
          have HTK : Hid (sumS (z.take (n + 1)) = sAdd (sumS (z.take n)) z[n].1 z[n].2) := Lib.hid (by rw [List.take_succ_eq_append_getElem hlt, sumS_snoc])
          generalize z[n] = u at *
          obtain ⟨k, v⟩ := u
          simp only at hc0 hc1 g0 g1 HTK
          have HK := Lib.hid g0
          have hbl := HM.out.lt
          have hlk := lookI HM.out Try.underlying57 g0 (wr.alloc (.cells #[.int .i64 k, .int .i64 v] 52)) (Below.heap_alloc wr _ bm hbl)
          have HMA : Hid (MapIs mInt (Value.int .i64) (wr.alloc (.cells #[.int .i64 k, .int .i64 v] 52)) bm (sumS (z.take n))) := Lib.hid (HM.out.keep (Below.heap_alloc wr _ bm hbl))
          clear g0 g1
          go_wp2_with (at_mapUpdate; refine wp_update (M := mInt) (ev := Value.int .i64) rfl _ _ _ 57 rfl _ Try.underlying57 bm (sumS (z.take n)) k (wrap64 (at0 (sumS (z.take n)) k + v)) rfl rfl rfl HMA.out HK.out ?_; intro w2 hm2 ho2; have HM2 := Lib.hid hm2; have HB2 := Lib.hid ((HBU.out.alloc _).only ho2 (.inl rfl)); clear hm2 ho2 hlk)
          go_roundw
          case rel => exact ⟨n + 1, by omega, by go_num, by rw [HTK.out]; exact HM2.out, HB2.out⟩
          case measure => simp [intOf]; omega
        · have hSZ := take_all hn hlt
          refine abs_world (S := fun wx => MapIs mInt (Value.int .i64) wx bm (sumS z) ∧ But (· = bm) w11 wx) ?_ ⟨by have := HM.out; rwa [hSZ] at this, HBU.out⟩
          rintro wx ⟨hmx, hbx⟩
          have HMX := Lib.hid hmx
          have HBX := Lib.hid hbx
          clear hmx hbx hSZ
          go_wp2_with (at_range; refine wp_range rfl _ 57 rfl 3 Try.underlying57 bm (sumS z) rfl HMX.out ?_; intro w12 hrg0 hg0 hs0)
          go_frame
          have HRG0 := Lib.hid hrg0
          have HB12 := Lib.hid (HBX.out.grown hg0 (fun k e => by cases e))
          clear hrg0 hg0 hs0
          go_loopw [14] (fun vn wr => ∃ ss : List Int, vn = .int .i64 (cntNZ (sumS z) ss : Nat) ∧ Rng mInt (Value.int .i64) wr bm wx.heap.size (sumS z) ss ∧ But (· = bm) w11 wr) (fun _ wr => wr.rangeLeft bm wx.heap.size)
          case atStart => exact ⟨[], rfl, HRG0.out, HB12.out⟩
          case round =>
            obtain ⟨ss, rfl, hrg, hbu⟩ := hrel
            have HRG := Lib.hid hrg
            have HBU := Lib.hid hbu
            have hszx := HBX.out.size
            clear hrg hbu
            go_wp2_with (at_next; refine wp_next rfl _ rfl bm wx.heap.size (sumS z) ss rfl HRG.out ?_ ?_)
            · intro hp
              have HNN : Hid (cntNZ (sumS z) ss = R.length) := Lib.hid (by rw [cntNZ_perm hp, HCNT.out])
              rw [HNN.out]
              have hRR : ((R.length : Int) == (R.length : Int)) = true := by simp
              have hR63 : R.length ≤ 9223372036854775807 := by omega
              go_wp2_with fail
              go_loopw [17] (fun vi wr2 => ∃ n : Nat, n ≤ R.length ∧ vi = .int .i64 n ∧ MapIs mInt (Value.int .i64) wr2 bm (sumS z) ∧ But (· = bm) w11 wr2) (fun vi _ => R.length - (intOf vi).toNat)
              case atStart => exact ⟨0, Nat.zero_le _, rfl, HRG.out.1, HBU.out⟩
              case round =>
                obtain ⟨n, hn, rfl, hm, hbu⟩ := hrel
                have HM2 := Lib.hid hm
                have HB2 := Lib.hid hbu
                clear hm hbu
                by_cases hlt : n < R.length
                · have hsl2 := Sl.keep (fun k hk hf => HB2.out.block k hk hf) HORW.out
                  obtain ⟨ad, rfl, _, hadl, hc0, hc1, g0, g1⟩ := bal_at hsl2 n hlt
                  have hmem : R[n] ∈ R := List.getElem_mem hlt
                  have hu := (HP4.out R[n]).1 hmem
                  have HF := Lib.hid (HFIT.out R[n] hmem)
                  have hlook : ∀ q, (Instr.lookup 57 (.map (some bm)) (.int .i64 R[n].1) false).run Try.prog (wr.drewN q) = .ok (.int .i64 R[n].2) (wr.drewN q) := fun q => by
                    have := lookI HM2.out Try.underlying57 g0 (wr.drewN q) rfl
                    rwa [hu.1] at this
                  have hz0 : (R[n].2 == 0) = false := by simpa using hu.2
                  have hvv : (R[n].2 != R[n].2) = false := by simp
                  have hfit : fitsB R[n].2 = true := HF.out
                  rcases Nat.eq_zero_or_pos n with h0 | hpos
                  · subst h0
                    have e0 : ad.add (0 * 2) = ad := by unfold Addr.add; split <;> simp_all
                    rw [e0] at hc0 hc1
                    generalize R[0] = u at *
                    obtain ⟨k, v⟩ := u
                    simp only at hc0 hc1 g0 g1 hlook hz0 hvv hfit
                    clear hmem hu hsl2 g0 g1
                    go_wp2_with fail
                    go_quiet ((go_at_call 22; exact Calls.quiet_of_same (rfits_any _ _)))
                    go_wp2_with fail
                    go_roundw
                    case rel => exact ⟨1, by omega, by go_num, HM2.out.keep rfl, HB2.out.drewN _⟩
                    case measure => simp [intOf]; omega
                  · obtain ⟨m, rfl⟩ : ∃ m, n = m + 1 := ⟨n - 1, by omega⟩
                    have hm' : m < R.length := by omega
                    obtain ⟨ad', hade, _, _, hd0, _, _, _⟩ := bal_at hsl2 m hm'
                    injection hade with hade
                    subst hade
                    have hlt2 := (List.pairwise_iff_getElem.1 HP3.out) m (m + 1) hm' hlt (by omega)
                    have hge : decide (R[m + 1].1 ≤ R[m].1) = false := by simpa using hlt2
                    generalize R[m + 1] = u at *
                    generalize R[m] = u' at *
                    obtain ⟨k, v⟩ := u
                    obtain ⟨k', v'⟩ := u'
                    simp only at hc0 hc1 g0 g1 hlook hz0 hvv hfit hd0 hge
                    obtain ⟨n, hnm⟩ : ∃ n, m + 1 = n := ⟨_, rfl⟩
                    rw [hnm] at hc0 hc1 hlt hn ⊢
                    have hsub : (n : Int) - 1 = m := by omega
                    have hwm : IntKind.i64.wrap (m : Int) = (m : Int) := wrap_small (by omega) (by omega)
                    have hgt : decide (0 < (n : Int)) = true := by simp; omega
                    have hgt2 : 0 < n := by omega
                    clear hmem hu hsl2 g0 g1 hlt2
                    go_wp2_with fail
                    go_quiet ((go_at_call 22; exact Calls.quiet_of_same (rfits_any _ _)))
                    go_wp2_with fail
                    go_roundw
                    case rel => exact ⟨n + 1, by omega, by go_num, HM2.out.keep rfl, HB2.out.drewN _⟩
                    case measure => simp [intOf]; omega
                · go_wp2_with fail
                  go_ret
                  exact ⟨rfl, But.toBelow HBW.out HB2.out (fun k e => by have := HB8.out.size; omega) HBW.out.size⟩
            · intro k v w13 hkv hrg2 hlt hg2 hs2 hen
              have hek : mInt.ek k = .int .i64 k := rfl
              rw [hek] at hen ⊢
              have hlen := hrg2.len
              have hatv : at0 (sumS z) k = v := look_mem HNOD.out hkv
              have hcl : cntNZ (sumS z) ss ≤ 60 := by
                unfold cntNZ
                have := List.length_filter_le (fun k => at0 (sumS z) k != 0) ss
                simp only [List.length_append, List.length_cons, List.length_nil] at hlen
                omega
              have HC2 := Lib.hid (cntNZ_snoc (sumS z) ss k)
              have HR2 := Lib.hid hrg2
              have HB2 := Lib.hid (HBU.out.grown hg2 (fun k e => by cases e; exact .inr hszx))
              have HLT := Lib.hid hlt
              rw [hatv] at HC2
              clear hrg2 hg2 hs2 hlen hlt hatv hkv
              cases hv : v == 0
              · have hv1 : (v != 0) = true := by simpa using hv
                have HC3 : Hid (cntNZ (sumS z) (ss ++ [k]) = cntNZ (sumS z) ss + 1) := Lib.hid (by rw [HC2.out, hv]; rfl)
                go_wp2_with fail
                go_roundw
                case rel => exact ⟨ss ++ [k], by rw [HC3.out]; go_num, HR2.out, HB2.out⟩
                case measure => exact HLT.out
              · have hv1 : (v != 0) = false := by simpa using hv
                have HC3 : Hid (cntNZ (sumS z) (ss ++ [k]) = cntNZ (sumS z) ss) := Lib.hid (by rw [HC2.out, hv]; rfl)
                go_wp2_with fail
                go_roundw
                case rel => exact ⟨ss ++ [k], by rw [HC3.out], HR2.out, HB2.out⟩
                case measure => exact HLT.out
theorem trialPlus_row (a0 : Option Addr) (len0 cap0 : Nat) (x0 : List (Int × Int)) (a1 : Option Addr) (len1 cap1 : Nat) (x1 : List (Int × Int)) (w : World) (y0 : tBals.R w (fun _ => True) [.slice a0 len0 cap0] x0) (y1 : tBals.R w (fun _ => True) [.slice a1 len1 cap1] x1) :
    Calls Try.prog 6 #[.slice a0 len0 cap0, .slice a1 len1 cap1] w fun en w' => en = .returned (.bool true) ∧ Below w.heap.size w w' := by
  obtain ⟨⟨a, cap, he, hs, hle, hcm, _⟩, hn⟩ := y0
  obtain ⟨⟨b, cap2, he2, ht, hle2, hcm2, _⟩, hn2⟩ := y1
  simp only [List.cons.injEq, Value.slice.injEq, and_true] at he he2
  obtain ⟨rfl, rfl, rfl⟩ := he
  obtain ⟨rfl, rfl, rfl⟩ := he2
  have hl := Nat.le_trans hle hcm
  have hl2 := Nat.le_trans hle2 hcm2
  have nil : ∀ {a : Option Addr} {l : List (Int × Int)} {c : Nat}, Sl tBal w (fun _ => True) a l → (∀ n c', [Value.slice a l.length c] = [.slice none n c'] → c' = 0) → a = none → l = [] ∧ c = 0 := by
    intro a l c hs hn ha
    subst ha
    refine ⟨?_, hn _ _ rfl⟩
    cases l with
    | nil => rfl
    | cons x r =>
      obtain ⟨ad, _, h, _⟩ := hs 0 x rfl
      cases h
  by_cases h : 30 < x0.length ∨ x0.length ≤ 30 ∧ 30 < x1.length
  · exact plus_early x0 x1 _ _ _ _ w hl hl2 h
  · exact plus_main x0 x1 _ _ _ _ w hs ht (by omega) (by omega) (nil hs hn) (nil ht hn2)
end Go.Proofs.Ytfbbjlhhkfdncaa
