/- The document's AddAccount. -/
import Derived.Test.YtgggpaacagbmcaaGreatX15GroupInner
import Derived.Test.YtgggpaacagbmcaaGreatX29GroupInner
set_option linter.unusedVariables false
set_option linter.unusedSimpArgs false
namespace Go.Proofs.YtgggpaacagbmcaaGreat
open Go.RowKit Go.Maps Go.Deep

theorem Sl.ofA {w W : World} {la : Option Addr} {xs : List Ac} {F : Nat → Prop} {v : Value} (h : Sl tAc w F la xs) (hb : Below w.heap.size w W) (hv : ∀ k, v.ownBlock = some k → w.heap.size ≤ k) : Sl tAc W (fun k => some k ≠ v.ownBlock ∧ k < W.heap.size) la xs := by
  intro i x hx
  obtain ⟨ad, ces, ha, _, hlt, hc, hr⟩ := h i x hx
  have hs := hb.size
  refine ⟨ad, ces, ha, ⟨fun e => by have := hv _ e.symm; omega, by omega⟩, by omega, fun j u hu => ?_, ?_⟩
  · rw [← hc j u hu]
    exact World.cell?_of_block (w := w) (by rw [add_block, add_block]; exact hb.block _ hlt)
  · obtain ⟨rfl, h1, h2⟩ := ac_inv hr
    exact ac_mk _ h1 h2

/-- one more account in a chart that is good, or an error -/
def AddP (w : World) (l : List Ac) (x : Ac) (e : Ending) (w' : World) : Prop :=
  ∃ (v' : Value), e = .returned (.tuple #[v', .int .i64 (addE l x)]) ∧ (addE l x = 0 → OwnL tAc w' w.heap.size v' (insA l x)) ∧ Below w.heap.size w w'

set_option maxHeartbeats 8000000 in
set_option maxRecDepth 100000 in
theorem add_any (l : List Ac) (la : Option Addr) (lc : Nat) (x : Ac) (w : World) {F : Nat → Prop} (hs : Sl tAc w F la l) (hg : GoodA l) (hl : l.length ≤ 100) (hcap : l.length ≤ lc) (hcm : lc ≤ maxLen) (hna : la = none → l = [] ∧ lc = 0) (hk1 : I64 x.code) (hk2 : I64 x.kind) :
    Calls Tryz.prog 23 #[.slice la l.length lc, acv x] w (AddP w l x) := by
  obtain ⟨xc, xk, xr⟩ := x
  simp only at hk1 hk2
  have HS := Lib.hid hs
  have HG := Lib.hid hg
  have HNA := Lib.hid hna
  have HK1 := Lib.hid hk1
  have HK2 := Lib.hid hk2
  obtain ⟨i0, hi, hz0, hz1, hz2⟩ := info_parts infoAc
  have HB := Lib.hid ((Below.refl w.heap.size w).alloc (Nat.le_refl _) (.cells #[.int .i64 xc, .int .i64 xk, .bool xr] 79))
  have HZ := Lib.hid (blk_new w (.cells #[.int .i64 xc, .int .i64 xk, .bool xr] 79))
  clear hs hg hna hk1 hk2
  cases hrow : rowB ⟨xc, xk, false⟩
  · go_enter Tryz.func23, Tryz.ntmps23
    go_wp2_with fail
    refine (row_any xc xk _ hrow).mono ?_
    rintro en w2 ⟨rfl, rfl⟩
    go_wp2_with fail
    go_ret2
    have HE : Hid (addE l ⟨xc, xk, xr⟩ = 1) := Lib.hid (by unfold addE; rw [if_neg]; show ¬ rowB ⟨xc, xk, false⟩ = true; rw [hrow]; decide)
    unfold AddP
    rw [HE.out]
    exact ⟨_, rfl, fun h => absurd h (by decide), HB.out⟩
  · have HROW := Lib.hid hrow
    clear hrow
    go_enter Tryz.func23, Tryz.ntmps23
    go_wp2_with fail
    refine (row_any xc xk _ HROW.out).mono ?_
    rintro en w2 ⟨rfl, rfl⟩
    go_wp2_with fail
    go_loopw [6] (fun vi wr => ∃ n : Nat, n ≤ l.length ∧ vi = .int .i64 n ∧ Hid (∀ i (hi : i < l.length), i < n → l[i].code < xc) ∧ Below w.heap.size w wr ∧ wr.heap[w.heap.size]? = some (.cells #[.int .i64 xc, .int .i64 xk, .bool xr] 79 (0, 0))) (fun vi _ => l.length - (Go.RowKit.intOf vi).toNat)
    case atStart => exact ⟨0, Nat.zero_le _, rfl, Lib.hid (fun i _ h => by omega), HB.out, HZ.out⟩
    case round =>
      obtain ⟨n, hn, rfl, hless, hb, hz⟩ := hrel
      have HBR := Lib.hid hb
      have HZR := Lib.hid hz
      clear hb hz HB HZ
      have hz := blk_cells HZR.out
      by_cases hlt : n < l.length
      · obtain ⟨ad, rfl, _, hadl, hc0, hc1, hc2, _, _⟩ := ac_at (HS.out.keep fun k hk _ => HBR.out.block k hk) n hlt
        have hcs : l[n].code < xc ∨ l[n].code = xc ∨ xc < l[n].code := by omega
        rcases hcs with h1 | h1 | h1
        · have hd : decide (l[n].code < xc) = true := by simpa using h1
          have HN : Hid (∀ i (hi : i < l.length), i < n + 1 → l[i].code < xc) := Lib.hid (fun i hi hin => by
            rcases Nat.lt_or_ge i n with h | h
            · exact hless.out i hi h
            · have : i = n := by omega
              subst this
              exact h1)
          clear hc1 hc2
          go_wp2_with fail
          go_quiet (fail)
          go_wp2_with fail
          go_roundw
          case rel => exact ⟨n + 1, by omega, by go_num, HN, below_drewN HBR.out _, blk_drew HZR.out _⟩
          case measure => simp [Go.RowKit.intOf]; omega
        · have hd : decide (l[n].code < xc) = false := by simp; omega
          have hq : (l[n].code == xc) = true := by simpa using h1
          have HE : Hid (addE l ⟨xc, xk, xr⟩ = 7) := Lib.hid (by unfold addE; rw [if_pos (show rowB ⟨xc, xk, xr⟩ = true from HROW.out), if_pos]; exact any_at _ l n hlt hq)
          clear hc1 hc2
          go_wp2_with fail
          go_quiet (fail)
          go_wp2_with fail
          go_quiet (fail)
          go_wp2_with fail
          go_ret2
          unfold AddP
          rw [HE.out]
          exact ⟨_, rfl, fun h => absurd h (by decide), below_drewN (below_drewN HBR.out _) _⟩
        · have hd : decide (l[n].code < xc) = false := by simp; omega
          have hq : (l[n].code == xc) = false := by simp; omega
          have HGN : Hid (GoodA (l.take n ++ [⟨xc, xk, xr⟩] ++ l.drop n)) := Lib.hid (take_ins HG.out (a := ⟨xc, xk, xr⟩) HROW.out (fun i hi h => hless.out i hi h) (fun _ => h1))
          have HIN : Hid (l.take n ++ [(⟨xc, xk, xr⟩ : Ac)] ++ l.drop n = insA l ⟨xc, xk, xr⟩) := Lib.hid (insA_at hless.out hn (fun _ => h1))
          have HE : Hid (addE l ⟨xc, xk, xr⟩ = 0) := Lib.hid (by unfold addE; rw [if_pos (show rowB ⟨xc, xk, xr⟩ = true from HROW.out), if_neg]; rw [any_new HGN.out]; decide)
          clear hc1 hc2
          go_wp2_with fail
          go_quiet (fail)
          go_wp2_with fail
          go_quiet (fail)
          go_wp2_with fail
          have HNIL1 : Hid ((some ad : Option Addr) = none → l.take n = [] ∧ lc = 0) := Lib.hid (fun e => by cases e)
          have HNIL2 : Hid ((some (ad.add (n * 3)) : Option Addr) = none → l.drop n = [] ∧ lc - n = 0) := Lib.hid (fun e => by cases e)
          have HS2 : Hid (Sl tAc w F (some (ad.add (n * 3))) (l.drop n)) := Lib.hid (by have := Sl.drop HS.out n; rwa [tAc_n] at this)
          have hsub : ¬ lc = n := by omega
          clear hc0 hz hadl
          refine abs_world (S := fun wx => wx.heap[w.heap.size]? = some (.cells #[.int .i64 xc, .int .i64 xk, .bool xr] 79 (0, 0)) ∧ Below w.heap.size w wx) ?_ ⟨blk_drew (blk_drew HZR.out _) _, below_drewN (below_drewN HBR.out _) _⟩
          rintro wx ⟨hzx, hbx⟩
          have HZX := Lib.hid hzx
          have HBX := Lib.hid hbx
          have hsx := hbx.size
          have hzc := blk_cells hzx
          have hzl := blk_lt hzx
          have hmin : min n l.length = n := by first | exact Nat.min_eq_left hn | simp
          have hnc : n ≤ lc := by first | omega | simp
          have HS1 := Lib.hid (Sl.take HS.out n)
          have h63a : ([] : List Ac).length + (l.take n).length ≤ maxLen := by rw [List.length_take]; simp only [List.length_nil]; unfold maxLen; omega
          have hbya : (([] : List Ac).length + (l.take n).length) * 24 ≤ 140737488355328 := by rw [List.length_take]; simp only [List.length_nil]; omega
          have h63b : (l.take n).length + [(⟨xc, xk, xr⟩ : Ac)].length ≤ maxLen := by rw [List.length_take]; simp only [List.length_cons, List.length_nil]; unfold maxLen; omega
          have hbyb : ((l.take n).length + [(⟨xc, xk, xr⟩ : Ac)].length) * 24 ≤ 140737488355328 := by rw [List.length_take]; simp only [List.length_cons, List.length_nil]; omega
          have h63c : (l.take n ++ [(⟨xc, xk, xr⟩ : Ac)]).length + (l.drop n).length ≤ maxLen := by rw [List.length_append, List.length_take, List.length_drop]; simp only [List.length_cons, List.length_nil]; unfold maxLen; omega
          have hbyc : ((l.take n ++ [(⟨xc, xk, xr⟩ : Ac)]).length + (l.drop n).length) * 24 ≤ 140737488355328 := by rw [List.length_append, List.length_take, List.length_drop]; simp only [List.length_cons, List.length_nil]; omega
          clear hzx hbx
          go_region_law (first
            | (refine step_appA (T := tAc) rfl (.const (.slice none 0 0)) (.tmp 47) 22 rfl i0 (.agg #[.int .i64 0, .int .i64 0, .bool false]) 24 Tryz.underlying22 hi hz0 hz1 hz2 rfl (by decide) ac_one wx.heap.size (.slice none 0 0) [] (by simp [Act.eval, Act.put, hmin, hsub]) (OwnL.nil _ _) (some ad) lc (l.take n) (by simp [Act.eval, Act.put, hmin, hsub]) HNIL1.out (Sl.ofA HS1.out (by repeat first | with_reducible exact HBX.out | with_reducible exact Below.refl _ _ | with_reducible refine Below.drew ?_ | with_reducible refine below_drewN ?_ _ | with_reducible refine Below.alloc ?_ (by first | omega | (simp; done) | (simp; omega) | exact Nat.le_refl _) _) (fun k e => by cases e)) h63a hbya (by first | omega | (simp; done) | (simp; omega) | exact Nat.le_refl _) ?_; intro v4 w4 hown4 hg4 hat4; have HO4 : Hid (OwnL tAc w4 wx.heap.size v4 (l.take n)) := Lib.hid (by simpa using hown4); have HAT4 := Lib.hid hat4; have HB4 : Hid (Below wx.heap.size wx w4) := Lib.hid (Below.grown (by repeat first | with_reducible exact HBX.out | with_reducible exact Below.refl _ _ | with_reducible refine Below.drew ?_ | with_reducible refine below_drewN ?_ _ | with_reducible refine Below.alloc ?_ (by first | omega | (simp; done) | (simp; omega) | exact Nat.le_refl _) _) hg4 (by first | omega | (simp; done) | (simp; omega) | exact Nat.le_refl _) (fun k e => by cases e)); have hc4 := blk_cells ((HB4.out.block _ hzl).trans HZX.out); have hs4 := HB4.out.size; first | (have HX4 : Hid (w4.heap[wx.heap.size]? = some (.cells #[.int .i64 xc, .int .i64 xk, .bool xr] 79 (0, 0))) := Lib.hid ((hg4.block wx.heap.size (by simp) (fun e => by cases e)).trans (blk_new _ _)); clear hown4 hg4 hat4) | (clear hown4 hg4 hat4))
            | (refine step_appA (T := tAc) rfl (.tmp 48) (.tmp 50) 22 rfl i0 (.agg #[.int .i64 0, .int .i64 0, .bool false]) 24 Tryz.underlying22 hi hz0 hz1 hz2 rfl (by decide) ac_one wx.heap.size v4 (l.take n) (by simp [Act.eval, Act.put, hmin, hsub]) (HO4.out.below (by repeat first | with_reducible exact HB4.out | with_reducible exact Below.refl _ _ | with_reducible refine Below.drew ?_ | with_reducible refine below_drewN ?_ _ | with_reducible refine Below.alloc ?_ (by first | omega | (simp; done) | (simp; omega) | exact Nat.le_refl _) _)) (some ⟨w4.heap.size, 0, none⟩) 1 [(⟨xc, xk, xr⟩ : Ac)] (by simp [Act.eval, Act.put, hmin, hsub]) (fun e => by cases e) (sl_oneA (blk_new _ _) ⟨fun e => by have := (HO4.out.lt _ e.symm).2; simp at this, by simp⟩ HK1.out HK2.out) h63b hbyb (by first | omega | (simp; done) | (simp; omega) | exact Nat.le_refl _) ?_; intro v5 w5 hown5 hg5 hat5; have HO5 := Lib.hid hown5; have HB5 : Hid (Below wx.heap.size wx w5) := Lib.hid (Below.grown (by repeat first | with_reducible exact HB4.out | with_reducible exact Below.refl _ _ | with_reducible refine Below.drew ?_ | with_reducible refine below_drewN ?_ _ | with_reducible refine Below.alloc ?_ (by first | omega | (simp; done) | (simp; omega) | exact Nat.le_refl _) _) hg5 (by first | omega | (simp; done) | (simp; omega) | exact Nat.le_refl _) (fun k e => (HO4.out.lt k e).1)); have hs5 := HB5.out.size; have HW5 := Lib.hid (HBX.out.trans (HB5.out.mono hsx)); clear hown5 hg5 hat5)
            | (refine step_appA (T := tAc) rfl (.tmp 51) (.tmp 54) 22 rfl i0 (.agg #[.int .i64 0, .int .i64 0, .bool false]) 24 Tryz.underlying22 hi hz0 hz1 hz2 rfl (by decide) ac_one wx.heap.size v5 (l.take n ++ [(⟨xc, xk, xr⟩ : Ac)] : List Ac) (by simp [Act.eval, Act.put, hmin, hsub]) (HO5.out.below (by repeat first | with_reducible exact HB5.out | with_reducible exact Below.refl _ _ | with_reducible refine Below.drew ?_ | with_reducible refine below_drewN ?_ _ | with_reducible refine Below.alloc ?_ (by first | omega | (simp; done) | (simp; omega) | exact Nat.le_refl _) _)) (some (ad.add (n * 3))) (lc - n) (l.drop n) (by simp [Act.eval, Act.put, hmin, hsub]) HNIL2.out (Sl.ofA HS2.out (by repeat first | with_reducible exact HW5.out | with_reducible exact Below.refl _ _ | with_reducible refine Below.drew ?_ | with_reducible refine below_drewN ?_ _ | with_reducible refine Below.alloc ?_ (by first | omega | (simp; done) | (simp; omega) | exact Nat.le_refl _) _) (fun k e => by have := (HO5.out.lt k e).1; omega)) h63c hbyc (by first | omega | (simp; done) | (simp; omega) | exact Nat.le_refl _) ?_; intro v6 w6 hown6 hg6 hat6; have HO6 := Lib.hid hown6; have HB6 : Hid (Below wx.heap.size wx w6) := Lib.hid (Below.grown (by repeat first | with_reducible exact HB5.out | with_reducible exact Below.refl _ _ | with_reducible refine Below.drew ?_ | with_reducible refine below_drewN ?_ _ | with_reducible refine Below.alloc ?_ (by first | omega | (simp; done) | (simp; omega) | exact Nat.le_refl _) _) hg6 (by first | omega | (simp; done) | (simp; omega) | exact Nat.le_refl _) (fun k e => (HO5.out.lt k e).1)); clear hown6 hg6 hat6)
            | (refine step_appA (T := tAc) rfl (.tmp 48) (.tmp 50) 22 rfl i0 (.agg #[.int .i64 0, .int .i64 0, .bool false]) 24 Tryz.underlying22 hi hz0 hz1 hz2 rfl (by decide) ac_one wx.heap.size v4 (l.take n) (by simp [Act.eval, Act.put, hmin, hsub]) (HO4.out.below (by repeat first | with_reducible exact HB4.out | with_reducible exact Below.refl _ _ | with_reducible refine Below.drew ?_ | with_reducible refine below_drewN ?_ _ | with_reducible refine Below.alloc ?_ (by first | omega | (simp; done) | (simp; omega) | exact Nat.le_refl _) _)) (some ⟨wx.heap.size, 0, none⟩) 1 [(⟨xc, xk, xr⟩ : Ac)] (by simp [Act.eval, Act.put, hmin, hsub]) (fun e => by cases e) (sl_oneA HX4.out ⟨fun e => by rcases HAT4.out with h | h <;> rw [h] at e <;> simp [Value.ownBlock] at e, blk_lt HX4.out⟩ HK1.out HK2.out) h63b hbyb (by first | omega | (simp; done) | (simp; omega) | exact Nat.le_refl _) ?_; intro v5 w5 hown5 hg5 hat5; have HO5 := Lib.hid hown5; have HB5 : Hid (Below wx.heap.size wx w5) := Lib.hid (Below.grown (by repeat first | with_reducible exact HB4.out | with_reducible exact Below.refl _ _ | with_reducible refine Below.drew ?_ | with_reducible refine below_drewN ?_ _ | with_reducible refine Below.alloc ?_ (by first | omega | (simp; done) | (simp; omega) | exact Nat.le_refl _) _) hg5 (by first | omega | (simp; done) | (simp; omega) | exact Nat.le_refl _) (fun k e => (HO4.out.lt k e).1)); have hs5 := HB5.out.size; have HW5 := Lib.hid (HBX.out.trans (HB5.out.mono hsx)); clear hown5 hg5 hat5))
          all_goals
            go_wp2_with fail
            go_ret2
            unfold AddP
            rw [HE.out]
            exact ⟨_, rfl, fun _ => by rw [← HIN.out]; exact HO6.out.mono hsx, HBX.out.trans (HB6.out.mono hsx)⟩
      · have hnn : n = l.length := by omega
        have HGN : Hid (GoodA (l.take n ++ [⟨xc, xk, xr⟩] ++ l.drop n)) := Lib.hid (take_ins HG.out (a := ⟨xc, xk, xr⟩) HROW.out (fun i hi h => hless.out i hi h) (fun hk => by omega))
        have HIN : Hid (l.take n ++ [(⟨xc, xk, xr⟩ : Ac)] ++ l.drop n = insA l ⟨xc, xk, xr⟩) := Lib.hid (insA_at hless.out hn (fun hk => by omega))
        have HE : Hid (addE l ⟨xc, xk, xr⟩ = 0) := Lib.hid (by unfold addE; rw [if_pos (show rowB ⟨xc, xk, xr⟩ = true from HROW.out), if_neg]; rw [any_new HGN.out]; decide)
        go_wp2_with fail
        go_quiet (fail)
        go_wp2_with fail
        go_quiet (fail)
        go_wp2_with fail
        cases la with
        | none =>
          obtain ⟨rfl, rfl⟩ := HNA.out rfl
          obtain rfl : n = 0 := by simpa using hnn
          have HNIL1 : Hid ((none : Option Addr) = none → ([] : List Ac).take 0 = [] ∧ 0 = 0) := Lib.hid (fun _ => ⟨rfl, rfl⟩)
          have HNIL2 : Hid ((none : Option Addr) = none → ([] : List Ac).drop 0 = [] ∧ 0 = 0) := Lib.hid (fun _ => ⟨rfl, rfl⟩)
          have HS2 : Hid (Sl tAc w F none (([] : List Ac).drop 0)) := Lib.hid (fun i x hx => by simp at hx)
          have hsub : True := trivial
          clear hz hnn
          refine abs_world (S := fun wx => wx.heap[w.heap.size]? = some (.cells #[.int .i64 xc, .int .i64 xk, .bool xr] 79 (0, 0)) ∧ Below w.heap.size w wx) ?_ ⟨blk_drew (blk_drew HZR.out _) _, below_drewN (below_drewN HBR.out _) _⟩
          rintro wx ⟨hzx, hbx⟩
          have HZX := Lib.hid hzx
          have HBX := Lib.hid hbx
          have hsx := hbx.size
          have hzc := blk_cells hzx
          have hzl := blk_lt hzx
          have hmin : min 0 ([] : List Ac).length = 0 := by first | exact Nat.min_eq_left hn | simp
          have hnc : 0 ≤ 0 := by first | omega | simp
          have HS1 := Lib.hid (Sl.take HS.out 0)
          have h63a : ([] : List Ac).length + (([] : List Ac).take 0).length ≤ maxLen := by rw [List.length_take]; simp only [List.length_nil]; unfold maxLen; omega
          have hbya : (([] : List Ac).length + (([] : List Ac).take 0).length) * 24 ≤ 140737488355328 := by rw [List.length_take]; simp only [List.length_nil]; omega
          have h63b : (([] : List Ac).take 0).length + [(⟨xc, xk, xr⟩ : Ac)].length ≤ maxLen := by rw [List.length_take]; simp only [List.length_cons, List.length_nil]; unfold maxLen; omega
          have hbyb : ((([] : List Ac).take 0).length + [(⟨xc, xk, xr⟩ : Ac)].length) * 24 ≤ 140737488355328 := by rw [List.length_take]; simp only [List.length_cons, List.length_nil]; omega
          have h63c : (([] : List Ac).take 0 ++ [(⟨xc, xk, xr⟩ : Ac)]).length + (([] : List Ac).drop 0).length ≤ maxLen := by rw [List.length_append, List.length_take, List.length_drop]; simp only [List.length_cons, List.length_nil]; unfold maxLen; omega
          have hbyc : ((([] : List Ac).take 0 ++ [(⟨xc, xk, xr⟩ : Ac)]).length + (([] : List Ac).drop 0).length) * 24 ≤ 140737488355328 := by rw [List.length_append, List.length_take, List.length_drop]; simp only [List.length_cons, List.length_nil]; omega
          clear hzx hbx
          go_region_law (first
            | (refine step_appA (T := tAc) rfl (.const (.slice none 0 0)) (.tmp 47) 22 rfl i0 (.agg #[.int .i64 0, .int .i64 0, .bool false]) 24 Tryz.underlying22 hi hz0 hz1 hz2 rfl (by decide) ac_one wx.heap.size (.slice none 0 0) [] (by simp [Act.eval, Act.put, hmin, hsub]) (OwnL.nil _ _) none 0 (([] : List Ac).take 0) (by simp [Act.eval, Act.put, hmin, hsub]) HNIL1.out (Sl.ofA HS1.out (by repeat first | with_reducible exact HBX.out | with_reducible exact Below.refl _ _ | with_reducible refine Below.drew ?_ | with_reducible refine below_drewN ?_ _ | with_reducible refine Below.alloc ?_ (by first | omega | (simp; done) | (simp; omega) | exact Nat.le_refl _) _) (fun k e => by cases e)) h63a hbya (by first | omega | (simp; done) | (simp; omega) | exact Nat.le_refl _) ?_; intro v4 w4 hown4 hg4 hat4; have HO4 : Hid (OwnL tAc w4 wx.heap.size v4 (([] : List Ac).take 0)) := Lib.hid (by simpa using hown4); have HAT4 := Lib.hid hat4; have HB4 : Hid (Below wx.heap.size wx w4) := Lib.hid (Below.grown (by repeat first | with_reducible exact HBX.out | with_reducible exact Below.refl _ _ | with_reducible refine Below.drew ?_ | with_reducible refine below_drewN ?_ _ | with_reducible refine Below.alloc ?_ (by first | omega | (simp; done) | (simp; omega) | exact Nat.le_refl _) _) hg4 (by first | omega | (simp; done) | (simp; omega) | exact Nat.le_refl _) (fun k e => by cases e)); have hc4 := blk_cells ((HB4.out.block _ hzl).trans HZX.out); have hs4 := HB4.out.size; first | (have HX4 : Hid (w4.heap[wx.heap.size]? = some (.cells #[.int .i64 xc, .int .i64 xk, .bool xr] 79 (0, 0))) := Lib.hid ((hg4.block wx.heap.size (by simp) (fun e => by cases e)).trans (blk_new _ _)); clear hown4 hg4 hat4) | (clear hown4 hg4 hat4))
            | (refine step_appA (T := tAc) rfl (.tmp 48) (.tmp 50) 22 rfl i0 (.agg #[.int .i64 0, .int .i64 0, .bool false]) 24 Tryz.underlying22 hi hz0 hz1 hz2 rfl (by decide) ac_one wx.heap.size v4 (([] : List Ac).take 0) (by simp [Act.eval, Act.put, hmin, hsub]) (HO4.out.below (by repeat first | with_reducible exact HB4.out | with_reducible exact Below.refl _ _ | with_reducible refine Below.drew ?_ | with_reducible refine below_drewN ?_ _ | with_reducible refine Below.alloc ?_ (by first | omega | (simp; done) | (simp; omega) | exact Nat.le_refl _) _)) (some ⟨w4.heap.size, 0, none⟩) 1 [(⟨xc, xk, xr⟩ : Ac)] (by simp [Act.eval, Act.put, hmin, hsub]) (fun e => by cases e) (sl_oneA (blk_new _ _) ⟨fun e => by have := (HO4.out.lt _ e.symm).2; simp at this, by simp⟩ HK1.out HK2.out) h63b hbyb (by first | omega | (simp; done) | (simp; omega) | exact Nat.le_refl _) ?_; intro v5 w5 hown5 hg5 hat5; have HO5 := Lib.hid hown5; have HB5 : Hid (Below wx.heap.size wx w5) := Lib.hid (Below.grown (by repeat first | with_reducible exact HB4.out | with_reducible exact Below.refl _ _ | with_reducible refine Below.drew ?_ | with_reducible refine below_drewN ?_ _ | with_reducible refine Below.alloc ?_ (by first | omega | (simp; done) | (simp; omega) | exact Nat.le_refl _) _) hg5 (by first | omega | (simp; done) | (simp; omega) | exact Nat.le_refl _) (fun k e => (HO4.out.lt k e).1)); have hs5 := HB5.out.size; have HW5 := Lib.hid (HBX.out.trans (HB5.out.mono hsx)); clear hown5 hg5 hat5)
            | (refine step_appA (T := tAc) rfl (.tmp 51) (.tmp 54) 22 rfl i0 (.agg #[.int .i64 0, .int .i64 0, .bool false]) 24 Tryz.underlying22 hi hz0 hz1 hz2 rfl (by decide) ac_one wx.heap.size v5 (([] : List Ac).take 0 ++ [(⟨xc, xk, xr⟩ : Ac)] : List Ac) (by simp [Act.eval, Act.put, hmin, hsub]) (HO5.out.below (by repeat first | with_reducible exact HB5.out | with_reducible exact Below.refl _ _ | with_reducible refine Below.drew ?_ | with_reducible refine below_drewN ?_ _ | with_reducible refine Below.alloc ?_ (by first | omega | (simp; done) | (simp; omega) | exact Nat.le_refl _) _)) none 0 (([] : List Ac).drop 0) (by simp [Act.eval, Act.put, hmin, hsub]) HNIL2.out (Sl.ofA HS2.out (by repeat first | with_reducible exact HW5.out | with_reducible exact Below.refl _ _ | with_reducible refine Below.drew ?_ | with_reducible refine below_drewN ?_ _ | with_reducible refine Below.alloc ?_ (by first | omega | (simp; done) | (simp; omega) | exact Nat.le_refl _) _) (fun k e => by have := (HO5.out.lt k e).1; omega)) h63c hbyc (by first | omega | (simp; done) | (simp; omega) | exact Nat.le_refl _) ?_; intro v6 w6 hown6 hg6 hat6; have HO6 := Lib.hid hown6; have HB6 : Hid (Below wx.heap.size wx w6) := Lib.hid (Below.grown (by repeat first | with_reducible exact HB5.out | with_reducible exact Below.refl _ _ | with_reducible refine Below.drew ?_ | with_reducible refine below_drewN ?_ _ | with_reducible refine Below.alloc ?_ (by first | omega | (simp; done) | (simp; omega) | exact Nat.le_refl _) _) hg6 (by first | omega | (simp; done) | (simp; omega) | exact Nat.le_refl _) (fun k e => (HO5.out.lt k e).1)); clear hown6 hg6 hat6)
            | (refine step_appA (T := tAc) rfl (.tmp 48) (.tmp 50) 22 rfl i0 (.agg #[.int .i64 0, .int .i64 0, .bool false]) 24 Tryz.underlying22 hi hz0 hz1 hz2 rfl (by decide) ac_one wx.heap.size v4 (([] : List Ac).take 0) (by simp [Act.eval, Act.put, hmin, hsub]) (HO4.out.below (by repeat first | with_reducible exact HB4.out | with_reducible exact Below.refl _ _ | with_reducible refine Below.drew ?_ | with_reducible refine below_drewN ?_ _ | with_reducible refine Below.alloc ?_ (by first | omega | (simp; done) | (simp; omega) | exact Nat.le_refl _) _)) (some ⟨wx.heap.size, 0, none⟩) 1 [(⟨xc, xk, xr⟩ : Ac)] (by simp [Act.eval, Act.put, hmin, hsub]) (fun e => by cases e) (sl_oneA HX4.out ⟨fun e => by rcases HAT4.out with h | h <;> rw [h] at e <;> simp [Value.ownBlock] at e, blk_lt HX4.out⟩ HK1.out HK2.out) h63b hbyb (by first | omega | (simp; done) | (simp; omega) | exact Nat.le_refl _) ?_; intro v5 w5 hown5 hg5 hat5; have HO5 := Lib.hid hown5; have HB5 : Hid (Below wx.heap.size wx w5) := Lib.hid (Below.grown (by repeat first | with_reducible exact HB4.out | with_reducible exact Below.refl _ _ | with_reducible refine Below.drew ?_ | with_reducible refine below_drewN ?_ _ | with_reducible refine Below.alloc ?_ (by first | omega | (simp; done) | (simp; omega) | exact Nat.le_refl _) _) hg5 (by first | omega | (simp; done) | (simp; omega) | exact Nat.le_refl _) (fun k e => (HO4.out.lt k e).1)); have hs5 := HB5.out.size; have HW5 := Lib.hid (HBX.out.trans (HB5.out.mono hsx)); clear hown5 hg5 hat5))
          all_goals
            go_wp2_with fail
            go_ret2
            unfold AddP
            rw [HE.out]
            exact ⟨_, rfl, fun _ => by rw [← HIN.out]; exact HO6.out.mono hsx, HBX.out.trans (HB6.out.mono hsx)⟩
        | some ad =>
          subst hnn
          have HDR : Hid (∀ a, Sl tAc w F a (l.drop l.length)) := Lib.hid (fun a i x hx => by rw [List.drop_length] at hx; simp at hx)
          have HNIL1 : Hid ((some ad : Option Addr) = none → l.take l.length = [] ∧ lc = 0) := Lib.hid (fun e => by cases e)
          by_cases hsub : lc = l.length
          · have HNIL2 : Hid ((some ad : Option Addr) = none → l.drop l.length = [] ∧ 0 = 0) := Lib.hid (fun e => by cases e)
            have HS2 := Lib.hid (HDR.out (some ad))
            subst hsub
            clear hz
            have hsub : True := trivial
            refine abs_world (S := fun wx => wx.heap[w.heap.size]? = some (.cells #[.int .i64 xc, .int .i64 xk, .bool xr] 79 (0, 0)) ∧ Below w.heap.size w wx) ?_ ⟨blk_drew (blk_drew HZR.out _) _, below_drewN (below_drewN HBR.out _) _⟩
            rintro wx ⟨hzx, hbx⟩
            have HZX := Lib.hid hzx
            have HBX := Lib.hid hbx
            have hsx := hbx.size
            have hzc := blk_cells hzx
            have hzl := blk_lt hzx
            have hmin : min l.length l.length = l.length := by first | exact Nat.min_eq_left hn | simp
            have hnc : l.length ≤ l.length := by first | omega | simp
            have HS1 := Lib.hid (Sl.take HS.out l.length)
            have h63a : ([] : List Ac).length + (l.take l.length).length ≤ maxLen := by rw [List.length_take]; simp only [List.length_nil]; unfold maxLen; omega
            have hbya : (([] : List Ac).length + (l.take l.length).length) * 24 ≤ 140737488355328 := by rw [List.length_take]; simp only [List.length_nil]; omega
            have h63b : (l.take l.length).length + [(⟨xc, xk, xr⟩ : Ac)].length ≤ maxLen := by rw [List.length_take]; simp only [List.length_cons, List.length_nil]; unfold maxLen; omega
            have hbyb : ((l.take l.length).length + [(⟨xc, xk, xr⟩ : Ac)].length) * 24 ≤ 140737488355328 := by rw [List.length_take]; simp only [List.length_cons, List.length_nil]; omega
            have h63c : (l.take l.length ++ [(⟨xc, xk, xr⟩ : Ac)]).length + (l.drop l.length).length ≤ maxLen := by rw [List.length_append, List.length_take, List.length_drop]; simp only [List.length_cons, List.length_nil]; unfold maxLen; omega
            have hbyc : ((l.take l.length ++ [(⟨xc, xk, xr⟩ : Ac)]).length + (l.drop l.length).length) * 24 ≤ 140737488355328 := by rw [List.length_append, List.length_take, List.length_drop]; simp only [List.length_cons, List.length_nil]; omega
            clear hzx hbx
            go_region_law (first
              | (refine step_appA (T := tAc) rfl (.const (.slice none 0 0)) (.tmp 47) 22 rfl i0 (.agg #[.int .i64 0, .int .i64 0, .bool false]) 24 Tryz.underlying22 hi hz0 hz1 hz2 rfl (by decide) ac_one wx.heap.size (.slice none 0 0) [] (by simp [Act.eval, Act.put, hmin, hsub]) (OwnL.nil _ _) (some ad) l.length (l.take l.length) (by simp [Act.eval, Act.put, hmin, hsub]) HNIL1.out (Sl.ofA HS1.out (by repeat first | with_reducible exact HBX.out | with_reducible exact Below.refl _ _ | with_reducible refine Below.drew ?_ | with_reducible refine below_drewN ?_ _ | with_reducible refine Below.alloc ?_ (by first | omega | (simp; done) | (simp; omega) | exact Nat.le_refl _) _) (fun k e => by cases e)) h63a hbya (by first | omega | (simp; done) | (simp; omega) | exact Nat.le_refl _) ?_; intro v4 w4 hown4 hg4 hat4; have HO4 : Hid (OwnL tAc w4 wx.heap.size v4 (l.take l.length)) := Lib.hid (by simpa using hown4); have HAT4 := Lib.hid hat4; have HB4 : Hid (Below wx.heap.size wx w4) := Lib.hid (Below.grown (by repeat first | with_reducible exact HBX.out | with_reducible exact Below.refl _ _ | with_reducible refine Below.drew ?_ | with_reducible refine below_drewN ?_ _ | with_reducible refine Below.alloc ?_ (by first | omega | (simp; done) | (simp; omega) | exact Nat.le_refl _) _) hg4 (by first | omega | (simp; done) | (simp; omega) | exact Nat.le_refl _) (fun k e => by cases e)); have hc4 := blk_cells ((HB4.out.block _ hzl).trans HZX.out); have hs4 := HB4.out.size; first | (have HX4 : Hid (w4.heap[wx.heap.size]? = some (.cells #[.int .i64 xc, .int .i64 xk, .bool xr] 79 (0, 0))) := Lib.hid ((hg4.block wx.heap.size (by simp) (fun e => by cases e)).trans (blk_new _ _)); clear hown4 hg4 hat4) | (clear hown4 hg4 hat4))
              | (refine step_appA (T := tAc) rfl (.tmp 48) (.tmp 50) 22 rfl i0 (.agg #[.int .i64 0, .int .i64 0, .bool false]) 24 Tryz.underlying22 hi hz0 hz1 hz2 rfl (by decide) ac_one wx.heap.size v4 (l.take l.length) (by simp [Act.eval, Act.put, hmin, hsub]) (HO4.out.below (by repeat first | with_reducible exact HB4.out | with_reducible exact Below.refl _ _ | with_reducible refine Below.drew ?_ | with_reducible refine below_drewN ?_ _ | with_reducible refine Below.alloc ?_ (by first | omega | (simp; done) | (simp; omega) | exact Nat.le_refl _) _)) (some ⟨w4.heap.size, 0, none⟩) 1 [(⟨xc, xk, xr⟩ : Ac)] (by simp [Act.eval, Act.put, hmin, hsub]) (fun e => by cases e) (sl_oneA (blk_new _ _) ⟨fun e => by have := (HO4.out.lt _ e.symm).2; simp at this, by simp⟩ HK1.out HK2.out) h63b hbyb (by first | omega | (simp; done) | (simp; omega) | exact Nat.le_refl _) ?_; intro v5 w5 hown5 hg5 hat5; have HO5 := Lib.hid hown5; have HB5 : Hid (Below wx.heap.size wx w5) := Lib.hid (Below.grown (by repeat first | with_reducible exact HB4.out | with_reducible exact Below.refl _ _ | with_reducible refine Below.drew ?_ | with_reducible refine below_drewN ?_ _ | with_reducible refine Below.alloc ?_ (by first | omega | (simp; done) | (simp; omega) | exact Nat.le_refl _) _) hg5 (by first | omega | (simp; done) | (simp; omega) | exact Nat.le_refl _) (fun k e => (HO4.out.lt k e).1)); have hs5 := HB5.out.size; have HW5 := Lib.hid (HBX.out.trans (HB5.out.mono hsx)); clear hown5 hg5 hat5)
              | (refine step_appA (T := tAc) rfl (.tmp 51) (.tmp 54) 22 rfl i0 (.agg #[.int .i64 0, .int .i64 0, .bool false]) 24 Tryz.underlying22 hi hz0 hz1 hz2 rfl (by decide) ac_one wx.heap.size v5 (l.take l.length ++ [(⟨xc, xk, xr⟩ : Ac)] : List Ac) (by simp [Act.eval, Act.put, hmin, hsub]) (HO5.out.below (by repeat first | with_reducible exact HB5.out | with_reducible exact Below.refl _ _ | with_reducible refine Below.drew ?_ | with_reducible refine below_drewN ?_ _ | with_reducible refine Below.alloc ?_ (by first | omega | (simp; done) | (simp; omega) | exact Nat.le_refl _) _)) (some ad) 0 (l.drop l.length) (by simp [Act.eval, Act.put, hmin, hsub]) HNIL2.out (Sl.ofA HS2.out (by repeat first | with_reducible exact HW5.out | with_reducible exact Below.refl _ _ | with_reducible refine Below.drew ?_ | with_reducible refine below_drewN ?_ _ | with_reducible refine Below.alloc ?_ (by first | omega | (simp; done) | (simp; omega) | exact Nat.le_refl _) _) (fun k e => by have := (HO5.out.lt k e).1; omega)) h63c hbyc (by first | omega | (simp; done) | (simp; omega) | exact Nat.le_refl _) ?_; intro v6 w6 hown6 hg6 hat6; have HO6 := Lib.hid hown6; have HB6 : Hid (Below wx.heap.size wx w6) := Lib.hid (Below.grown (by repeat first | with_reducible exact HB5.out | with_reducible exact Below.refl _ _ | with_reducible refine Below.drew ?_ | with_reducible refine below_drewN ?_ _ | with_reducible refine Below.alloc ?_ (by first | omega | (simp; done) | (simp; omega) | exact Nat.le_refl _) _) hg6 (by first | omega | (simp; done) | (simp; omega) | exact Nat.le_refl _) (fun k e => (HO5.out.lt k e).1)); clear hown6 hg6 hat6)
              | (refine step_appA (T := tAc) rfl (.tmp 48) (.tmp 50) 22 rfl i0 (.agg #[.int .i64 0, .int .i64 0, .bool false]) 24 Tryz.underlying22 hi hz0 hz1 hz2 rfl (by decide) ac_one wx.heap.size v4 (l.take l.length) (by simp [Act.eval, Act.put, hmin, hsub]) (HO4.out.below (by repeat first | with_reducible exact HB4.out | with_reducible exact Below.refl _ _ | with_reducible refine Below.drew ?_ | with_reducible refine below_drewN ?_ _ | with_reducible refine Below.alloc ?_ (by first | omega | (simp; done) | (simp; omega) | exact Nat.le_refl _) _)) (some ⟨wx.heap.size, 0, none⟩) 1 [(⟨xc, xk, xr⟩ : Ac)] (by simp [Act.eval, Act.put, hmin, hsub]) (fun e => by cases e) (sl_oneA HX4.out ⟨fun e => by rcases HAT4.out with h | h <;> rw [h] at e <;> simp [Value.ownBlock] at e, blk_lt HX4.out⟩ HK1.out HK2.out) h63b hbyb (by first | omega | (simp; done) | (simp; omega) | exact Nat.le_refl _) ?_; intro v5 w5 hown5 hg5 hat5; have HO5 := Lib.hid hown5; have HB5 : Hid (Below wx.heap.size wx w5) := Lib.hid (Below.grown (by repeat first | with_reducible exact HB4.out | with_reducible exact Below.refl _ _ | with_reducible refine Below.drew ?_ | with_reducible refine below_drewN ?_ _ | with_reducible refine Below.alloc ?_ (by first | omega | (simp; done) | (simp; omega) | exact Nat.le_refl _) _) hg5 (by first | omega | (simp; done) | (simp; omega) | exact Nat.le_refl _) (fun k e => (HO4.out.lt k e).1)); have hs5 := HB5.out.size; have HW5 := Lib.hid (HBX.out.trans (HB5.out.mono hsx)); clear hown5 hg5 hat5))
            all_goals
              go_wp2_with fail
              go_ret2
              unfold AddP
              rw [HE.out]
              exact ⟨_, rfl, fun _ => by rw [← HIN.out]; exact HO6.out.mono hsx, HBX.out.trans (HB6.out.mono hsx)⟩
          · have HNIL2 : Hid ((some (ad.add (l.length * 3)) : Option Addr) = none → l.drop l.length = [] ∧ lc - l.length = 0) := Lib.hid (fun e => by cases e)
            have HS2 := Lib.hid (HDR.out (some (ad.add (l.length * 3))))
            clear hz
            refine abs_world (S := fun wx => wx.heap[w.heap.size]? = some (.cells #[.int .i64 xc, .int .i64 xk, .bool xr] 79 (0, 0)) ∧ Below w.heap.size w wx) ?_ ⟨blk_drew (blk_drew HZR.out _) _, below_drewN (below_drewN HBR.out _) _⟩
            rintro wx ⟨hzx, hbx⟩
            have HZX := Lib.hid hzx
            have HBX := Lib.hid hbx
            have hsx := hbx.size
            have hzc := blk_cells hzx
            have hzl := blk_lt hzx
            have hmin : min l.length l.length = l.length := by first | exact Nat.min_eq_left hn | simp
            have hnc : l.length ≤ lc := by first | omega | simp
            have HS1 := Lib.hid (Sl.take HS.out l.length)
            have h63a : ([] : List Ac).length + (l.take l.length).length ≤ maxLen := by rw [List.length_take]; simp only [List.length_nil]; unfold maxLen; omega
            have hbya : (([] : List Ac).length + (l.take l.length).length) * 24 ≤ 140737488355328 := by rw [List.length_take]; simp only [List.length_nil]; omega
            have h63b : (l.take l.length).length + [(⟨xc, xk, xr⟩ : Ac)].length ≤ maxLen := by rw [List.length_take]; simp only [List.length_cons, List.length_nil]; unfold maxLen; omega
            have hbyb : ((l.take l.length).length + [(⟨xc, xk, xr⟩ : Ac)].length) * 24 ≤ 140737488355328 := by rw [List.length_take]; simp only [List.length_cons, List.length_nil]; omega
            have h63c : (l.take l.length ++ [(⟨xc, xk, xr⟩ : Ac)]).length + (l.drop l.length).length ≤ maxLen := by rw [List.length_append, List.length_take, List.length_drop]; simp only [List.length_cons, List.length_nil]; unfold maxLen; omega
            have hbyc : ((l.take l.length ++ [(⟨xc, xk, xr⟩ : Ac)]).length + (l.drop l.length).length) * 24 ≤ 140737488355328 := by rw [List.length_append, List.length_take, List.length_drop]; simp only [List.length_cons, List.length_nil]; omega
            clear hzx hbx
            go_region_law (first
              | (refine step_appA (T := tAc) rfl (.const (.slice none 0 0)) (.tmp 47) 22 rfl i0 (.agg #[.int .i64 0, .int .i64 0, .bool false]) 24 Tryz.underlying22 hi hz0 hz1 hz2 rfl (by decide) ac_one wx.heap.size (.slice none 0 0) [] (by simp [Act.eval, Act.put, hmin, hsub]) (OwnL.nil _ _) (some ad) lc (l.take l.length) (by simp [Act.eval, Act.put, hmin, hsub]) HNIL1.out (Sl.ofA HS1.out (by repeat first | with_reducible exact HBX.out | with_reducible exact Below.refl _ _ | with_reducible refine Below.drew ?_ | with_reducible refine below_drewN ?_ _ | with_reducible refine Below.alloc ?_ (by first | omega | (simp; done) | (simp; omega) | exact Nat.le_refl _) _) (fun k e => by cases e)) h63a hbya (by first | omega | (simp; done) | (simp; omega) | exact Nat.le_refl _) ?_; intro v4 w4 hown4 hg4 hat4; have HO4 : Hid (OwnL tAc w4 wx.heap.size v4 (l.take l.length)) := Lib.hid (by simpa using hown4); have HAT4 := Lib.hid hat4; have HB4 : Hid (Below wx.heap.size wx w4) := Lib.hid (Below.grown (by repeat first | with_reducible exact HBX.out | with_reducible exact Below.refl _ _ | with_reducible refine Below.drew ?_ | with_reducible refine below_drewN ?_ _ | with_reducible refine Below.alloc ?_ (by first | omega | (simp; done) | (simp; omega) | exact Nat.le_refl _) _) hg4 (by first | omega | (simp; done) | (simp; omega) | exact Nat.le_refl _) (fun k e => by cases e)); have hc4 := blk_cells ((HB4.out.block _ hzl).trans HZX.out); have hs4 := HB4.out.size; first | (have HX4 : Hid (w4.heap[wx.heap.size]? = some (.cells #[.int .i64 xc, .int .i64 xk, .bool xr] 79 (0, 0))) := Lib.hid ((hg4.block wx.heap.size (by simp) (fun e => by cases e)).trans (blk_new _ _)); clear hown4 hg4 hat4) | (clear hown4 hg4 hat4))
              | (refine step_appA (T := tAc) rfl (.tmp 48) (.tmp 50) 22 rfl i0 (.agg #[.int .i64 0, .int .i64 0, .bool false]) 24 Tryz.underlying22 hi hz0 hz1 hz2 rfl (by decide) ac_one wx.heap.size v4 (l.take l.length) (by simp [Act.eval, Act.put, hmin, hsub]) (HO4.out.below (by repeat first | with_reducible exact HB4.out | with_reducible exact Below.refl _ _ | with_reducible refine Below.drew ?_ | with_reducible refine below_drewN ?_ _ | with_reducible refine Below.alloc ?_ (by first | omega | (simp; done) | (simp; omega) | exact Nat.le_refl _) _)) (some ⟨w4.heap.size, 0, none⟩) 1 [(⟨xc, xk, xr⟩ : Ac)] (by simp [Act.eval, Act.put, hmin, hsub]) (fun e => by cases e) (sl_oneA (blk_new _ _) ⟨fun e => by have := (HO4.out.lt _ e.symm).2; simp at this, by simp⟩ HK1.out HK2.out) h63b hbyb (by first | omega | (simp; done) | (simp; omega) | exact Nat.le_refl _) ?_; intro v5 w5 hown5 hg5 hat5; have HO5 := Lib.hid hown5; have HB5 : Hid (Below wx.heap.size wx w5) := Lib.hid (Below.grown (by repeat first | with_reducible exact HB4.out | with_reducible exact Below.refl _ _ | with_reducible refine Below.drew ?_ | with_reducible refine below_drewN ?_ _ | with_reducible refine Below.alloc ?_ (by first | omega | (simp; done) | (simp; omega) | exact Nat.le_refl _) _) hg5 (by first | omega | (simp; done) | (simp; omega) | exact Nat.le_refl _) (fun k e => (HO4.out.lt k e).1)); have hs5 := HB5.out.size; have HW5 := Lib.hid (HBX.out.trans (HB5.out.mono hsx)); clear hown5 hg5 hat5)
              | (refine step_appA (T := tAc) rfl (.tmp 51) (.tmp 54) 22 rfl i0 (.agg #[.int .i64 0, .int .i64 0, .bool false]) 24 Tryz.underlying22 hi hz0 hz1 hz2 rfl (by decide) ac_one wx.heap.size v5 (l.take l.length ++ [(⟨xc, xk, xr⟩ : Ac)] : List Ac) (by simp [Act.eval, Act.put, hmin, hsub]) (HO5.out.below (by repeat first | with_reducible exact HB5.out | with_reducible exact Below.refl _ _ | with_reducible refine Below.drew ?_ | with_reducible refine below_drewN ?_ _ | with_reducible refine Below.alloc ?_ (by first | omega | (simp; done) | (simp; omega) | exact Nat.le_refl _) _)) (some (ad.add (l.length * 3))) (lc - l.length) (l.drop l.length) (by simp [Act.eval, Act.put, hmin, hsub]) HNIL2.out (Sl.ofA HS2.out (by repeat first | with_reducible exact HW5.out | with_reducible exact Below.refl _ _ | with_reducible refine Below.drew ?_ | with_reducible refine below_drewN ?_ _ | with_reducible refine Below.alloc ?_ (by first | omega | (simp; done) | (simp; omega) | exact Nat.le_refl _) _) (fun k e => by have := (HO5.out.lt k e).1; omega)) h63c hbyc (by first | omega | (simp; done) | (simp; omega) | exact Nat.le_refl _) ?_; intro v6 w6 hown6 hg6 hat6; have HO6 := Lib.hid hown6; have HB6 : Hid (Below wx.heap.size wx w6) := Lib.hid (Below.grown (by repeat first | with_reducible exact HB5.out | with_reducible exact Below.refl _ _ | with_reducible refine Below.drew ?_ | with_reducible refine below_drewN ?_ _ | with_reducible refine Below.alloc ?_ (by first | omega | (simp; done) | (simp; omega) | exact Nat.le_refl _) _) hg6 (by first | omega | (simp; done) | (simp; omega) | exact Nat.le_refl _) (fun k e => (HO5.out.lt k e).1)); clear hown6 hg6 hat6)
              | (refine step_appA (T := tAc) rfl (.tmp 48) (.tmp 50) 22 rfl i0 (.agg #[.int .i64 0, .int .i64 0, .bool false]) 24 Tryz.underlying22 hi hz0 hz1 hz2 rfl (by decide) ac_one wx.heap.size v4 (l.take l.length) (by simp [Act.eval, Act.put, hmin, hsub]) (HO4.out.below (by repeat first | with_reducible exact HB4.out | with_reducible exact Below.refl _ _ | with_reducible refine Below.drew ?_ | with_reducible refine below_drewN ?_ _ | with_reducible refine Below.alloc ?_ (by first | omega | (simp; done) | (simp; omega) | exact Nat.le_refl _) _)) (some ⟨wx.heap.size, 0, none⟩) 1 [(⟨xc, xk, xr⟩ : Ac)] (by simp [Act.eval, Act.put, hmin, hsub]) (fun e => by cases e) (sl_oneA HX4.out ⟨fun e => by rcases HAT4.out with h | h <;> rw [h] at e <;> simp [Value.ownBlock] at e, blk_lt HX4.out⟩ HK1.out HK2.out) h63b hbyb (by first | omega | (simp; done) | (simp; omega) | exact Nat.le_refl _) ?_; intro v5 w5 hown5 hg5 hat5; have HO5 := Lib.hid hown5; have HB5 : Hid (Below wx.heap.size wx w5) := Lib.hid (Below.grown (by repeat first | with_reducible exact HB4.out | with_reducible exact Below.refl _ _ | with_reducible refine Below.drew ?_ | with_reducible refine below_drewN ?_ _ | with_reducible refine Below.alloc ?_ (by first | omega | (simp; done) | (simp; omega) | exact Nat.le_refl _) _) hg5 (by first | omega | (simp; done) | (simp; omega) | exact Nat.le_refl _) (fun k e => (HO4.out.lt k e).1)); have hs5 := HB5.out.size; have HW5 := Lib.hid (HBX.out.trans (HB5.out.mono hsx)); clear hown5 hg5 hat5))
            all_goals
              go_wp2_with fail
              go_ret2
              unfold AddP
              rw [HE.out]
              exact ⟨_, rfl, fun _ => by rw [← HIN.out]; exact HO6.out.mono hsx, HBX.out.trans (HB6.out.mono hsx)⟩
end Go.Proofs.YtgggpaacagbmcaaGreat
