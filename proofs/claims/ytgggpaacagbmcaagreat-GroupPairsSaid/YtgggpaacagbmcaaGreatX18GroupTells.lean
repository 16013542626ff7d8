/- variorumbook: copies of balances, lent ones, whether they stay. -/
import Derived.Test.YtgggpaacagbmcaaGreatX17GroupTells
import Derived.Test.YtgggpaacagbmcaaGreatX09GroupTells
import Derived.Laws.AppendOwnNone
import Derived.Test.YtgggpaacagbmcaaGreatX13GroupTells
import Derived.Test.YtgggpaacagbmcaaGreatX12GroupTells
import Derived.Test.YtgggpaacagbmcaaGreatX14GroupTells
import Derived.LoopN
set_option linter.unusedVariables false
set_option linter.unusedSimpArgs false
namespace Go.Proofs.YtgggpaacagbmcaaGreat
open Go.RowKit Go.Maps

theorem OwnL.form {P : Program} {e : TypeId} {α : Type} {T : Ty P e α} {w : World} {base : Nat} {v : Value} {xs : List α} (h : OwnL T w base v xs) :
    (v = .slice none 0 0 ∧ xs = []) ∨ ∃ g cap, v = .slice (some ⟨g, 0, none⟩) xs.length cap ∧ xs.length ≤ cap ∧ cap ≤ maxLen := h.ownF.form
theorem form_snoc {P : Program} {e : TypeId} {α : Type} {T : Ty P e α} {w : World} {base : Nat} {v : Value} {xs : List α} {x : α} (h : OwnL T w base v (xs ++ [x])) : ∃ g c, v = .slice (some ⟨g, 0, none⟩) (xs.length + 1) c ∧ xs.length + 1 ≤ c ∧ c ≤ maxLen := by
  rcases h.form with ⟨_, h⟩ | ⟨g, c, h1, h2, h3⟩
  · simp at h
  · rw [List.length_append] at h1 h2
    exact ⟨g, c, h1, h2, h3⟩
theorem Sl.left {P : Program} {e : TypeId} {α : Type} {T : Ty P e α} {w : World} {F : Nat → Prop} {a : Option Addr} {xs ys : List α} (h : Sl T w F a (xs ++ ys)) : Sl T w F a xs := by
  intro i x hx
  exact h i x (by rw [List.getElem?_append_left (List.getElem?_eq_some_iff.1 hx).1]; exact hx)

set_option maxHeartbeats 2000000 in
set_option maxRecDepth 100000 in
theorem cpBal_any {w : World} {base : Nat} {v : Value} {l : List (Int × Int)} (h : OwnL tBal w base v l) (hl : l.length ≤ 100000) :
    Calls Tryz.prog 31 #[v] w fun e w' => ∃ v', e = .returned v' ∧ OwnL tBal w' w.heap.size v' l ∧ Below w.heap.size w w' := by
  obtain ⟨i0, hi, hz0, hz1, hz2⟩ := info_parts infoBal
  have hf := h.form
  obtain ⟨a, cap, rfl, _, _, hs⟩ := h.slice
  have HS : Hid (Sl tBal w (fun k => some k ≠ (Value.slice none 0 0).ownBlock ∧ k < w.heap.size) a l) := Lib.hid (fun i x hx => by
    obtain ⟨ad, ces, ha, _, hlt, hc, hr⟩ := hs i x hx
    exact ⟨ad, ces, ha, ⟨by simp [Value.ownBlock], hlt⟩, hlt, hc, bal_free _ _ _ _ _ hr⟩)
  have h63 : ([] : List (Int × Int)).length + l.length ≤ maxLen := by simp only [List.length_nil]; unfold maxLen; omega
  have hby : (([] : List (Int × Int)).length + l.length) * 16 ≤ 140737488355328 := by simp only [List.length_nil]; omega
  clear h hs
  rcases hf with ⟨hv, rfl⟩ | ⟨g, c, hv, _⟩
  · injection hv with h1 _ h3
    subst h1
    subst h3
    have HN := Lib.hid (World.ownsRow_nil w w.heap.size 62 2)
    go_enter Tryz.func31, Tryz.ntmps31
    go_wp2_with (at_builtin; refine wpList_append_own_none rfl _ _ 49 rfl w.heap.size 62 i0 2 Tryz.underlying49 hi (.slice none 0 0) 0 [] rfl HN.out rfl ?_)
    go_ret
    exact ⟨_, rfl, OwnL.nil _ _, Below.refl _ _⟩
  · injection hv with h1 _ h3
    subst h1
    subst h3
    go_enter Tryz.func31, Tryz.ntmps31
    go_wp2_with (at_builtin; refine wp_app (T := tBal) rfl _ _ 49 rfl i0 (.agg #[.int .i64 0, .int .i64 0]) 16 Tryz.underlying49 hi hz0 hz1 hz2 rfl (by decide) bal_one w.heap.size (.slice none 0 0) [] rfl (OwnL.nil _ _) ⟨g, 0, none⟩ cap l rfl HS.out h63 hby (Nat.le_refl _) ?_; intro v' w' hown hg hnil hat; have HB := Lib.hid (Below.grown (Below.refl w.heap.size w) hg (Nat.le_refl _) (fun k e => by simp [Value.ownBlock] at e)); have HO := Lib.hid hown; clear hown hg hnil hat)
    go_ret
    exact ⟨v', rfl, by simpa using HO.out, HB.out⟩

/-- a list with room behind it, in which a mark stands -/
def LentB (w : World) (base : Nat) (v : Value) (l : List (Int × Int)) : Prop := ∃ g cap, v = .slice (some ⟨g, 0, none⟩) l.length cap ∧ l.length + 1 ≤ cap ∧ cap ≤ maxLen ∧ OwnL tBal w base (.slice (some ⟨g, 0, none⟩) (l.length + 1) cap) (l ++ [(77, 0)])
theorem LentB.below {w w' : World} {base : Nat} {v : Value} {l : List (Int × Int)} (h : LentB w base v l) (hb : Below w.heap.size w w') : LentB w' base v l := by
  obtain ⟨g, cap, h1, h2, h3, h4⟩ := h
  exact ⟨g, cap, h1, h2, h3, h4.below hb⟩

theorem sameBal_is (l m : List (Int × Int)) (a b : Option Addr) (ca cb : Nat) (w : World) {F G : Nat → Prop} (hs : Sl tBal w F a l) (ht : Sl tBal w G b m) (hl : l.length ≤ maxLen) (hm : m.length ≤ maxLen) (h : l = m) :
    Calls Tryz.prog 16 #[.slice a l.length ca, .slice b m.length cb] w fun e w' => e = .returned (.bool true) ∧ Below w.heap.size w w' := sameBal_any l m a b ca cb w hs ht hl hm (by simpa using h)

end Go.Proofs.YtgggpaacagbmcaaGreat


/- The first call of law 10 is as the document fixes it. -/
set_option linter.unusedVariables false
set_option linter.unusedSimpArgs false
namespace Go.Proofs.YtgggpaacagbmcaaGreat
open Go.RowKit Go.Maps

theorem sl_lines2 {w : World} {F : Nat → Prop} {b : Nat} (x y : Ln) (hb : w.heap[b]? = some (.cells #[.int .i64 x.acc, .int .i64 x.amt, .int .i64 x.par, .int .i64 y.acc, .int .i64 y.amt, .int .i64 y.par] 74 (0, 0))) (hF : F b)
    (hx : I64 x.acc ∧ I64 x.amt ∧ I64 x.par) (hy : I64 y.acc ∧ I64 y.amt ∧ I64 y.par) : Sl tLn w F (some ⟨b, 0, none⟩) [x, y] := by
  have hlt : b < w.heap.size := (Array.getElem?_eq_some_iff.1 hb).1
  have hcell := fun o => cell_of_row w b o _ 74 (0, 0) hb
  intro i u hi
  match i, hi with
  | 0, hi =>
    simp at hi; subst hi
    refine ⟨_, [.int .i64 x.acc, .int .i64 x.amt, .int .i64 x.par], rfl, hF, hlt, fun j v hv => ?_, ln_mk x hx.1 hx.2.1 hx.2.2⟩
    match j, hv with
    | 0, hv => simp at hv; subst hv; exact hcell 0
    | 1, hv => simp at hv; subst hv; exact hcell 1
    | 2, hv => simp at hv; subst hv; exact hcell 2
  | 1, hi =>
    simp at hi; subst hi
    refine ⟨_, [.int .i64 y.acc, .int .i64 y.amt, .int .i64 y.par], rfl, hF, hlt, fun j v hv => ?_, ln_mk y hy.1 hy.2.1 hy.2.2⟩
    match j, hv with
    | 0, hv => simp at hv; subst hv; exact hcell 3
    | 1, hv => simp at hv; subst hv; exact hcell 4
    | 2, hv => simp at hv; subst hv; exact hcell 5

def aliveJ : Jn := ⟨1, 1, 3, ⟨#[]⟩, [⟨100, 5, 0⟩, ⟨200, -5, 0⟩], false⟩
theorem alive_chk : chk aliveJ = 0 := by decide +kernel
theorem alive_val : ValJ [aliveJ] := ⟨by simp, by intro x hx; simp at hx; subst hx; exact alive_chk, by
  intro x hx
  simp at hx
  subst hx
  simp [takenJ, aliveJ], by simp⟩
theorem srt_id {l : List Int} (h : l.Pairwise (fun a b => decide (a ≤ b) = true)) : srt l = l := List.mergeSort_of_pairwise h
theorem alive_acc : accS [] (linesOf [aliveJ] 1 0 5) = [(100, 5), (200, -5)] := by decide +kernel
theorem alive_bal : balT [aliveJ] 1 0 5 = ([(100, 5), (200, -5)], 0) := by
  have h1 : accR [aliveJ] 1 0 5 = [(100, 5), (200, -5)] := by
    unfold accR tellS
    rw [alive_acc]
    have : srt ([((100 : Int), (5 : Int)), (200, -5)].map (·.1)) = [100, 200] := srt_id (l := [100, 200]) (by simp)
    rw [this]
    decide +kernel
  unfold balT
  rw [h1]
  decide +kernel

theorem alive_sl (W : World) (c0 : W.heap.size = W.heap.size) : True := trivial
end Go.Proofs.YtgggpaacagbmcaaGreat


/- trial.Pick: of balances those of kinds. -/
set_option linter.unusedVariables false
set_option linter.unusedSimpArgs false
namespace Go.Proofs.YtgggpaacagbmcaaGreat
open Go.RowKit Go.Maps Go.Deep

theorem filter_yes {α : Type} (p : α → Bool) {l : List α} {n : Nat} (hn : n < l.length) (h : p l[n] = true) : (l.take (n + 1)).filter p = (l.take n).filter p ++ [l[n]] := by
  rw [List.take_succ_eq_append_getElem hn, List.filter_append]
  simp [h]
theorem filter_no {α : Type} (p : α → Bool) {l : List α} {n : Nat} (hn : n < l.length) (h : p l[n] = false) : (l.take (n + 1)).filter p = (l.take n).filter p := by
  rw [List.take_succ_eq_append_getElem hn, List.filter_append]
  simp [h]

set_option maxHeartbeats 8000000 in
set_option maxRecDepth 100000 in
theorem pick_any {w : World} {g : Nat} {mb : Option Nat} {r : List Ac} (h : ChartAt w g mb r) (l : List (Int × Int)) (a : Option Addr) (cap : Nat) (ks : List Int) (ka : Option Addr) (kc : Nat) {F G : Nat → Prop} (hs : Sl tBal w F a l) (hl : l.length ≤ 1000) (hks : Sl tInt w G ka ks) (hkl : ks.length ≤ maxLen) :
    Calls Tryz.prog 99 #[.pointer (some ⟨g, 0, none⟩), .slice a l.length cap, .slice ka ks.length kc] w fun e w' => ∃ v, e = .returned v ∧ OwnL tBal w' w.heap.size v (l.filter (pickB r ks)) ∧ Below w.heap.size w w' := by
  have HH := Lib.hid h
  have HS := Lib.hid hs
  have HKS := Lib.hid hks
  clear h hs hks
  obtain ⟨i0, hi, hz0, hz1, hz2⟩ := info_parts infoBal
  go_enter Tryz.func99, Tryz.ntmps99
  go_wp2_with fail
  go_loopw [7, 14] (fun vo vi wr => ∃ (n : Nat) (vx : Value), vx = vo ∧ n ≤ l.length ∧ vi = .int .i64 n ∧ OwnL tBal wr w.heap.size vx ((l.take n).filter (pickB r ks)) ∧ Below w.heap.size w wr) (fun _ vi _ => l.length - (intOf vi).toNat)
  case atStart => exact ⟨0, _, rfl, Nat.zero_le _, rfl, OwnL.nil _ _, Below.refl _ _⟩
  case round =>
    obtain ⟨n, vo, rfl, hn, rfl, ho, hb⟩ := hrel
    have HO := Lib.hid ho
    have HB := Lib.hid hb
    clear ho hb
    by_cases hlt : n < l.length
    · obtain ⟨ad, rfl, _, hadl, hc0, hc1, g0, g1⟩ := bal_at (Sl.keep (fun k hk _ => HB.out.block k hk) HS.out) n hlt
      have HY := Lib.hid (fun h => filter_yes (pickB r ks) hlt h)
      have HN := Lib.hid (fun h => filter_no (pickB r ks) hlt h)
      have hnum : ((l.take n).filter (pickB r ks)).length ≤ 1000 := by
        have := List.length_filter_le (pickB r ks) (l.take n)
        rw [List.length_take] at this
        omega
      generalize l[n] = x at *
      obtain ⟨k, v⟩ := x
      simp only at hc0 hc1 g0 g1
      have G0 := Lib.hid g0
      have G1 := Lib.hid g1
      have HBA : Hid (Below wr.heap.size wr (wr.alloc (.cells #[.int .i64 k, .int .i64 v] 62))) := Lib.hid ((Below.refl _ _).alloc (Nat.le_refl _) _)
      have HZA := Lib.hid (blk_new wr (.cells #[.int .i64 k, .int .i64 v] 62))
      have HC := Lib.hid (chget_any ((HH.out.below HB.out).below HBA.out) k g0)
      have hpk : pickB r ks (k, v) = match findA r k with | some a => ks.contains a.kind | none => false := rfl
      clear g0 g1
      cases hfa : findA r k with
      | none =>
        have hd : acD r k = ac0 := by unfold acD; rw [hfa]; rfl
        rw [hfa] at hpk
        have hcg := HC.out
        rw [hfa, hd] at hcg
        have HCG := Lib.hid hcg
        have HPK : Hid (pickB r ks (k, v) = false) := Lib.hid hpk
        clear hcg HC hpk hd hfa
        go_wp2_with fail
        refine HCG.out.mono ?_
        rintro en w2 ⟨rfl, hb⟩
        have HB2 := Lib.hid (belows_then (belows_then HB.out HB.out.size HBA.out) (Nat.le_trans HB.out.size HBA.out.size) hb)
        have HO2 := Lib.hid ((HO.out.below HBA.out).below hb)
        clear hb
        go_wp2_with fail
        go_roundw
        case rel => exact ⟨n + 1, _, rfl, by omega, by go_num, by rw [HN.out HPK.out]; exact HO2.out.alloc _, HB2.out.alloc HB2.out.size _⟩
        case measure => simp [intOf]; omega
      | some ac =>
        have hd : acD r k = ac := by unfold acD; rw [hfa]; rfl
        rw [hfa] at hpk
        have hcg := HC.out
        rw [hfa, hd] at hcg
        have HCG := Lib.hid hcg
        have HPK : Hid (pickB r ks (k, v) = ks.contains ac.kind) := Lib.hid hpk
        clear hcg HC hpk hd hfa
        obtain ⟨c1, c2, c3⟩ := ac
        go_wp2_with fail
        refine HCG.out.mono ?_
        rintro en w2 ⟨rfl, hb⟩
        have HB2 := Lib.hid (belows_then (belows_then HB.out HB.out.size HBA.out) (Nat.le_trans HB.out.size HBA.out.size) hb)
        have HO2 := Lib.hid ((HO.out.below HBA.out).below hb)
        have HZ2 := Lib.hid (blk_below HZA.out hb)
        have HK2 := Lib.hid (Sl.keep (fun k hk _ => (HB2.out.alloc HB2.out.size (.cells #[.int .i64 c1, .int .i64 c2, .bool c3] 79)).block k hk) HKS.out)
        have hzc := blk_cells HZ2.out
        have hzl := blk_lt HZ2.out
        simp only [Option.isSome_some]
        clear hb hc0 hc1 hadl
        cases hc : ks.contains c2
        · have HP2 := Lib.hid (HPK.out.trans hc)
          have HCC := Lib.hid (contains_any ks ka kc c2 _ HK2.out hkl hc)
          clear hc
          go_wp2_with fail
          refine HCC.out.mono ?_
          rintro en w3 ⟨rfl, rfl⟩
          go_wp2_with fail
          go_roundw
          case rel => exact ⟨n + 1, _, rfl, by omega, by go_num, by rw [HN.out HP2.out]; exact HO2.out.alloc _, HB2.out.alloc HB2.out.size _⟩
          case measure => simp [intOf]; omega
        · have HP2 := Lib.hid (HPK.out.trans hc)
          have HCC := Lib.hid (contains_any ks ka kc c2 _ HK2.out hkl hc)
          clear hc
          have HOA := Lib.hid ((HO2.out.alloc (.cells #[.int .i64 c1, .int .i64 c2, .bool c3] 79)).alloc (.cells #[.int .i64 k, .int .i64 v] 62))
          have HBB := Lib.hid ((HB2.out.alloc HB2.out.size (.cells #[.int .i64 c1, .int .i64 c2, .bool c3] 79)).alloc (by have := HB2.out.size; simp; omega) (.cells #[.int .i64 k, .int .i64 v] 62))
          have HSL : Hid (Sl tBal ((w2.alloc (.cells #[.int .i64 c1, .int .i64 c2, .bool c3] 79)).alloc (.cells #[.int .i64 k, .int .i64 v] 62)) (fun kk => some kk ≠ vo.ownBlock ∧ kk < ((w2.alloc (.cells #[.int .i64 c1, .int .i64 c2, .bool c3] 79)).alloc (.cells #[.int .i64 k, .int .i64 v] 62)).heap.size) (some ⟨w2.heap.size + 1, 0, none⟩) [(k, v)]) :=
            Lib.hid (sl_one2 tBal (x := (k, v)) rfl (by have := blk_new (w2.alloc (.cells #[.int .i64 c1, .int .i64 c2, .bool c3] 79)) (.cells #[.int .i64 k, .int .i64 v] 62); simpa using this) ⟨fun e => by have := (HO2.out.lt _ e.symm).2; omega, by simp⟩ (bal_mk (k, v) G0.out G1.out))
          have h63 : ((l.take n).filter (pickB r ks)).length + [((k, v) : Int × Int)].length ≤ maxLen := by simp only [List.length_cons, List.length_nil]; unfold maxLen; omega
          have hby : (((l.take n).filter (pickB r ks)).length + [((k, v) : Int × Int)].length) * 16 ≤ 140737488355328 := by simp only [List.length_cons, List.length_nil]; omega
          go_wp2_with fail
          refine HCC.out.mono ?_
          rintro en w3 ⟨rfl, rfl⟩
          go_wp2_with (at_builtin; refine wp_app (T := tBal) rfl _ _ 49 rfl i0 (.agg #[.int .i64 0, .int .i64 0]) 16 Tryz.underlying49 hi hz0 hz1 hz2 rfl (by decide) bal_one w.heap.size vo ((l.take n).filter (pickB r ks)) rfl HOA.out ⟨w2.heap.size + 1, 0, none⟩ 1 [(k, v)] rfl HSL.out h63 hby HBB.out.size ?_; intro v3 w3 hown hg hnil hat; have HO3 := Lib.hid hown; have HB3 := Lib.hid (Below.grown HBB.out hg HBB.out.size (fun k e => (HOA.out.lt k e).1)); clear hown hg hnil hat)
          go_roundw
          case rel => exact ⟨n + 1, _, rfl, by omega, by go_num, by rw [HY.out HP2.out]; exact HO3.out, HB3.out⟩
          case measure => simp [intOf]; omega
    · have HL : Hid (l.take n = l) := Lib.hid (take_all hn hlt)
      have hown := HO.out
      rw [HL.out] at hown
      have HW := Lib.hid hown
      clear hown
      go_wp2_with fail
      go_ret
      exact ⟨_, rfl, HW.out, HB.out⟩

set_option maxHeartbeats 4000000 in
set_option maxRecDepth 100000 in
theorem pick_nil (w : World) (l : List (Int × Int)) (a : Option Addr) (cap : Nat) (ks : List Int) (ka : Option Addr) (kc : Nat) {F : Nat → Prop} (hs : Sl tBal w F a l) (hl : l.length ≤ 1000) :
    Calls Tryz.prog 99 #[.pointer none, .slice a l.length cap, .slice ka ks.length kc] w fun e w' => e = .returned (.slice none 0 0) ∧ Below w.heap.size w w' := by
  have HS := Lib.hid hs
  clear hs
  go_enter Tryz.func99, Tryz.ntmps99
  go_wp2_with fail
  go_loopw [7, 14] (fun vo vi wr => ∃ (n : Nat), vo = .slice none 0 0 ∧ n ≤ l.length ∧ vi = .int .i64 n ∧ Below w.heap.size w wr) (fun _ vi _ => l.length - (intOf vi).toNat)
  case atStart => exact ⟨0, rfl, Nat.zero_le _, rfl, Below.refl _ _⟩
  case round =>
    obtain ⟨n, rfl, hn, rfl, hb⟩ := hrel
    have HB := Lib.hid hb
    clear hb
    by_cases hlt : n < l.length
    · obtain ⟨ad, rfl, _, hadl, hc0, hc1, g0, g1⟩ := bal_at (Sl.keep (fun k hk _ => HB.out.block k hk) HS.out) n hlt
      generalize l[n] = x at *
      obtain ⟨k, v⟩ := x
      simp only at hc0 hc1 g0 g1
      have HBA : Hid (Below w.heap.size w (wr.alloc (.cells #[.int .i64 k, .int .i64 v] 62))) := Lib.hid (HB.out.alloc HB.out.size _)
      clear g0 g1
      go_wp2_with fail
      refine (chget_nil _ k).mono ?_
      rintro en w2 ⟨rfl, hb⟩
      have HB2 := Lib.hid (belows_then HBA.out HBA.out.size hb)
      clear hb
      go_wp2_with fail
      go_roundw
      case rel => exact ⟨n + 1, rfl, by omega, by go_num, HB2.out.alloc HB2.out.size _⟩
      case measure => simp [intOf]; omega
    · go_wp2_with fail
      go_ret
      exact ⟨rfl, HB.out⟩
end Go.Proofs.YtgggpaacagbmcaaGreat


/- income: balances with their signs turned, sums, what is left. -/
set_option linter.unusedVariables false
set_option linter.unusedSimpArgs false
namespace Go.Proofs.YtgggpaacagbmcaaGreat
open Go.RowKit Go.Maps Go.Deep

def negB (x : Int × Int) : Int × Int := (x.1, -x.2)
theorem i64_ofB {n : Int} (h1 : -9223372036854775808 ≤ n) (h2 : n ≤ 9223372036854775807) : I64 n := by
  unfold I64 Lit.wf
  simp [IntKind.min, IntKind.max, IntKind.bits, IntKind.signed]
  omega
theorem wrap_is {n : Int} (h1 : -9223372036854775808 ≤ n) (h2 : n ≤ 9223372036854775807) : IntKind.i64.wrap n = n := by
  simp only [IntKind.wrap, IntKind.bits, IntKind.signed, Int.reducePow]
  simp
  split <;> omega

theorem madd2 (x y : Int) (b : Nat) (W : World) (hb : W.heap[b]? = some (.cells #[.int .i64 x, .int .i64 y] 3 (0, 0))) (wx : I64 x) (wy : I64 y) {r : Int × Int} (hr : addM [x, y] = r) :
    Calls Tryz.prog 97 #[.slice (some ⟨b, 0, none⟩) 2 2] W fun e w' => e = .returned (.tuple #[.int .i64 r.1, .int .i64 r.2]) ∧ Below W.heap.size W w' := by
  have := madd_any [x, y] (some ⟨b, 0, none⟩) 2 W (sl_two x y b W hb wx wy) (by simp)
  rw [hr] at this
  exact this

end Go.Proofs.YtgggpaacagbmcaaGreat


/- income.Of: the statement of balances. -/
set_option linter.unusedVariables false
set_option linter.unusedSimpArgs false
namespace Go.Proofs.YtgggpaacagbmcaaGreat
open Go.RowKit Go.Maps Go.Deep

def incI (r : List Ac) (l : List (Int × Int)) : List (Int × Int) := (l.filter (pickB r [4])).map negB
def incO (r : List Ac) (l : List (Int × Int)) : List (Int × Int) := l.filter (pickB r [5])
/-- earned, spent, left; the error -/
def incR (r : List Ac) (l : List (Int × Int)) : (Int × Int × Int) × Int :=
  let a := addM ((incI r l).map (·.2))
  let b := addM ((incO r l).map (·.2))
  let n := addM [a.1, -b.1]
  if a.2 != 0 then ((0, 0, 0), a.2) else if b.2 != 0 then ((0, 0, 0), b.2) else if n.2 != 0 then ((0, 0, 0), n.2) else ((a.1, b.1, n.1), 0)
def IncP (w : World) (r : List Ac) (l : List (Int × Int)) (t : (Int × Int × Int) × Int) (e : Ending) (w' : World) : Prop :=
  ∃ v1 v2, e = .returned (.tuple #[.agg #[v1, v2, .int .i64 t.1.1, .int .i64 t.1.2.1, .int .i64 t.1.2.2], .int .i64 t.2]) ∧
    (t.2 = 0 → OwnL tBal w' w.heap.size v1 (incI r l) ∧ OwnL tBal w' w.heap.size v2 (incO r l) ∧ (v1.ownBlock = none ∨ v1.ownBlock ≠ v2.ownBlock)) ∧ (t.2 ≠ 0 → v1 = .slice none 0 0 ∧ v2 = .slice none 0 0) ∧ Below w.heap.size w w'
theorem addM_fit (l : List Int) : fitsB (addM l).1 = true := by
  unfold addM
  split
  · unfold fitS
    split
    · assumption
    · rfl
  · rfl
theorem five (w : World) (b : Nat) {t : TypeId} {x0 x1 x2 x3 x4 : Value} (h : w.heap[b]? = some (.cells #[x0, x1, x2, x3, x4] t (0, 0))) (v0 v1 v2 v3 v4 : Value) :
    ∃ w4, (((((w.setCell ⟨b, 0, none⟩ v0).setCell ⟨b, 1, none⟩ v1).setCell ⟨b, 2, none⟩ v2).setCell ⟨b, 3, none⟩ v3).setCell ⟨b, 4, none⟩ v4) = w4 ∧ w4.heap[b]? = some (.cells #[v0, v1, v2, v3, v4] t (0, 0)) ∧ w4.heap.size = w.heap.size ∧
      (∀ k, k ≠ b → w4.heap[k]? = w.heap[k]?) ∧ (∀ B w0, Below B w0 w → B ≤ b → Below B w0 w4) := by
  refine ⟨_, rfl, ?_, by simp, fun k hk => ?_, fun B w0 hb hB => ?_⟩
  · have := blk_set (blk_set (blk_set (blk_set (blk_set h 0 v0) 1 v1) 2 v2) 3 v3) 4 v4
    simpa using this
  · iterate 5 (rw [Below.heap_setCell _ _ _ k hk])
  · iterate 5 (refine Below.setCell ?_ hB _)
    exact hb
theorem OwnL.slice' {w : World} {base : Nat} {a : Option Addr} {n c : Nat} {xs : List (Int × Int)} (h : OwnL tBal w base (.slice a n c) xs) : Sl tBal w (fun _ => True) a xs := by
  obtain ⟨a', c', he, _, _, hs⟩ := OwnL.slice h
  injection he with h1
  rw [h1]
  exact hs
theorem own_set {w w' : World} {base : Nat} {v : Value} {xs : List (Int × Int)} (h : OwnL tBal w base v xs) (hb : ∀ k, v.ownBlock = some k → w'.heap[k]? = w.heap[k]?) : OwnL tBal w' base v xs := by
  obtain ⟨css, h1, h2, h3, h4⟩ := h
  refine ⟨css, ⟨h1.1, ?_⟩, h2, h3, fun i c x hi hx => ?_⟩
  · rcases h1.2 with ⟨rfl, h0⟩ | ⟨g, cap, cur, rfl, hb', hc, hn, hm, hcs, ht⟩
    · exact .inl ⟨rfl, h0⟩
    · exact .inr ⟨g, cap, cur, rfl, hb', (hb g rfl).trans hc, hn, hm, hcs, ht⟩
  · obtain ⟨rfl, g1, g2⟩ := bal_inv (h4 i c x hi hx)
    exact bal_mk x g1 g2
theorem sl_one1 (x : Int) (b : Nat) (W : World) (hb : W.heap[b]? = some (.cells #[.int .i64 x] 3 (0, 0))) (h : I64 x) : Sl tInt W (fun _ => True) (some ⟨b, 0, none⟩) [x] := sl_oneI hb trivial h

end Go.Proofs.YtgggpaacagbmcaaGreat
