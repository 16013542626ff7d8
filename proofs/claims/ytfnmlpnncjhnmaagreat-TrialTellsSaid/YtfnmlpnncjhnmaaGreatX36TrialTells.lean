/- variorumbook: pairs as balances are: made, read, copied. -/
import Derived.Test.YtfnmlpnncjhnmaaGreatX20TrialTells
import Derived.Test.YtfnmlpnncjhnmaaGreatX35TrialTells
import Derived.Test.YtfnmlpnncjhnmaaGreatX22TrialTells
import Derived.Laws.AppendOwnNone
import Derived.Test.YtfnmlpnncjhnmaaGreatX33TrialTells
import Derived.Test.YtfnmlpnncjhnmaaGreatX34TrialTells
set_option linter.unusedVariables false
set_option linter.unusedSimpArgs false
namespace Go.Proofs.YtfnmlpnncjhnmaaGreat
open Go.RowKit Go.Maps Go.Deep

theorem pair_mk {w : World} {F : Nat → Prop} (x : Int × Int) (h1 : I64 x.1) (h2 : I64 x.2) : tPair.R w F (pairV x) x := ⟨rfl, h1, h2⟩
theorem pair_inv {w : World} {F : Nat → Prop} {cs : List Value} {x : Int × Int} (h : tPair.R w F cs x) : cs = pairV x ∧ I64 x.1 ∧ I64 x.2 := h
theorem pair_Free : Free tPair := fun w w' F G c x h => h
set_option maxHeartbeats 2000000 in
set_option maxRecDepth 100000 in
theorem cpPair_any {w : World} {base : Nat} {v : Value} {l : List (Int × Int)} (h : OwnL tPair w base v l) (hl : l.length ≤ 100000) :
    Calls Tryz.prog 48 #[v] w fun e w' => ∃ v', e = .returned v' ∧ OwnL tPair w' w.heap.size v' l ∧ Below w.heap.size w w' := by
  obtain ⟨i0, hi, hz0, hz1, hz2⟩ := info_parts infoPair
  have hf := h.form
  obtain ⟨a, cap, rfl, _, _, hs⟩ := h.slice
  have HS : Hid (Sl tPair w (fun k => some k ≠ (Value.slice none 0 0).ownBlock ∧ k < w.heap.size) a l) := Lib.hid (fun i x hx => by
    obtain ⟨ad, ces, ha, _, hlt, hc, hr⟩ := hs i x hx
    exact ⟨ad, ces, ha, ⟨by simp [Value.ownBlock], hlt⟩, hlt, hc, pair_free _ _ _ _ _ hr⟩)
  have h63 : ([] : List (Int × Int)).length + l.length ≤ maxLen := by simp only [List.length_nil]; unfold maxLen; omega
  have hby : (([] : List (Int × Int)).length + l.length) * 16 ≤ 140737488355328 := by simp only [List.length_nil]; omega
  clear h hs
  rcases hf with ⟨hv, rfl⟩ | ⟨g, c, hv, _⟩
  · injection hv with h1 _ h3
    subst h1
    subst h3
    have HN := Lib.hid (World.ownsRow_nil w w.heap.size 110 2)
    go_enter Tryz.func48, Tryz.ntmps48
    go_wp2_with (at_builtin; refine wpList_append_own_none rfl _ _ 50 rfl w.heap.size 110 i0 2 Tryz.underlying50 hi (.slice none 0 0) 0 [] rfl HN.out rfl ?_)
    go_ret
    exact ⟨_, rfl, OwnL.nil _ _, Below.refl _ _⟩
  · injection hv with h1 _ h3
    subst h1
    subst h3
    go_enter Tryz.func48, Tryz.ntmps48
    go_wp2_with (at_builtin; refine wp_app (T := tPair) rfl _ _ 50 rfl i0 (.agg #[.int .i64 0, .int .i64 0]) 16 Tryz.underlying50 hi hz0 hz1 hz2 rfl (by decide) pair_one w.heap.size (.slice none 0 0) [] rfl (OwnL.nil _ _) ⟨g, 0, none⟩ cap l rfl HS.out h63 hby (Nat.le_refl _) ?_; intro v' w' hown hg hnil hat; have HB := Lib.hid (Below.grown (Below.refl w.heap.size w) hg (Nat.le_refl _) (fun k e => by simp [Value.ownBlock] at e)); have HO := Lib.hid hown; clear hown hg hnil hat)
    go_ret
    exact ⟨v', rfl, by simpa using HO.out, HB.out⟩

theorem samePair_is (l m : List (Int × Int)) (a b : Option Addr) (ca cb : Nat) (w : World) {F G : Nat → Prop} (hs : Sl tPair w F a l) (ht : Sl tPair w G b m) (hl : l.length ≤ maxLen) (hm : m.length ≤ maxLen) (h : l = m) :
    Calls Tryz.prog 16 #[.slice a l.length ca, .slice b m.length cb] w fun e w' => e = .returned (.bool true) ∧ Below w.heap.size w w' :=
  samePair_any l m a b ca cb w hs ht hl hm (by simpa using h)
end Go.Proofs.YtfnmlpnncjhnmaaGreat


/- append at a step of a region, where the list behind may be nil. -/
set_option linter.unusedVariables false
set_option linter.unusedSimpArgs false
namespace Go.Proofs.YtfnmlpnncjhnmaaGreat
open Go.RowKit Go.Maps
section
variable {P : Program} {e : TypeId} {α : Type} {T : Ty P e α} {ops : Array Oper} {o : Oper} {a : Act} {w : World} {K : Act → World → Prop} {Q : Exit → Act → World → Prop} {E : Prop}
theorem step_appA (hgd : o.guard = none) (s x : Operand) (t : TypeId) (ho : o.op = .call { callee := .builtin .append, args := #[s, x], argTypes := #[t, t] })
    (i : TypeInfo) (z : Value) (bytes : Nat) (ht : P.underlying t = some (.slice e)) (hi : P.info? e = some i) (hz : i.zero = some z) (hsize : i.size = T.n) (hby : i.bytes = bytes) (hzs : z.cells.size = T.n) (hsz : 0 < T.n)
    (h1c : ∀ (w : World) (F : Nat → Prop) (c : List Value) (x : α), T.R w F c x → ∀ u ∈ c, u.oneCell' = true)
    (base : Nat) (v : Value) (xs : List α) (hs : a.eval s = v) (hown : OwnL T w base v xs) (ad : Option Addr) (c : Nat) (ys : List α) (hx : a.eval x = .slice ad ys.length c) (hnil : ad = none → ys = [] ∧ c = 0)
    (hys : Sl T w (fun k => some k ≠ v.ownBlock ∧ k < w.heap.size) ad ys) (h63 : xs.length + ys.length ≤ maxLen) (hbytes : (xs.length + ys.length) * bytes ≤ 140737488355328) (hbase : base ≤ w.heap.size)
    (h : ∀ v' w', OwnL T w' base v' (xs ++ ys) → w.grownBy w' v.ownBlock → (v'.ownBlock = v.ownBlock ∨ v'.ownBlock = some w.heap.size) → K (a.put o.dst v') w') :
    if Region.wanted o (yielded ops a.tmps) = true then Oper.wp P o a w K Q else E := by
  cases ad with
  | some ad => exact step_app hgd s x t ho i z bytes ht hi hz hsize hby hzs hsz h1c base v xs hs hown ad c ys hx hys h63 hbytes hbase h
  | none =>
    obtain ⟨rfl, rfl⟩ := hnil rfl
    obtain ⟨css, hr, h2⟩ := hown
    have hw : Region.wanted o (yielded ops a.tmps) = true := by simp [Region.wanted, hgd]
    rw [if_pos hw]
    have hrun := run_append_owned_none (P := P) (w := w) base t o.type e i T.n ht hi v xs.length css.flatten hr
    unfold Oper.wp
    have hx' : a.eval x = .slice none 0 0 := hx
    simp [execOp, ho, resolve, invoke, builtin, hs, hx', hrun, Result.andThen]
    exact h v w (by rw [List.append_nil]; exact ⟨css, hr, h2⟩) ⟨rfl, rfl, rfl, Nat.le_refl _, fun _ _ _ => rfl⟩ (.inl rfl)
end
end Go.Proofs.YtfnmlpnncjhnmaaGreat


/- append at a step of a region: lists whose elements lie in blocks of a given kind. -/
set_option linter.unusedVariables false
set_option linter.unusedSimpArgs false
namespace Go.Proofs.YtfnmlpnncjhnmaaGreat
open Go.RowKit Go.Maps
section
variable {P : Program} {e : TypeId} {α : Type} {T : Ty P e α} {ops : Array Oper} {o : Oper} {a : Act} {w : World} {K : Act → World → Prop} {Q : Exit → Act → World → Prop} {E : Prop}
theorem step_call (hg : o.guard = none) (f : FuncId) (args : Array Value) (hrun : (execOp a.eval o).run P w = .ok (.enter f args) w) (h : Calls P f args w fun e w' => ∃ v, e = .returned v ∧ K (a.put o.dst v) w') :
    if Region.wanted o (yielded ops a.tmps) = true then Oper.wp P o a w K Q else E := by
  have hw : Region.wanted o (yielded ops a.tmps) = true := by simp [Region.wanted, hg]
  rw [if_pos hw]
  unfold Oper.wp
  rw [hrun, Oper.upon_enter]
  exact h.mono (by rintro e w' ⟨v, rfl, hk⟩; exact hk)
theorem step_appF (hgd : o.guard = none) (s x : Operand) (t : TypeId) (ho : o.op = .call { callee := .builtin .append, args := #[s, x], argTypes := #[t, t] })
    (i : TypeInfo) (z : Value) (bytes : Nat) (ht : P.underlying t = some (.slice e)) (hi : P.info? e = some i) (hz : i.zero = some z) (hsize : i.size = T.n) (hby : i.bytes = bytes) (hzs : z.cells.size = T.n) (hsz : 0 < T.n)
    (h1c : ∀ (w : World) (F : Nat → Prop) (c : List Value) (x : α), T.R w F c x → ∀ u ∈ c, u.oneCell' = true)
    (base : Nat) (F : Nat → Prop) (v : Value) (xs : List α) (hs : a.eval s = v) (hown : OwnF T w base F v xs) (ad : Addr) (c : Nat) (ys : List α) (hx : a.eval x = .slice (some ad) ys.length c)
    (hys : ∀ i x, ys[i]? = some x → ∃ ces, (∀ j u, ces[j]? = some u → w.cell? ((ad.add (i * T.n)).add j) = some u) ∧ T.R w (fun k => F k ∧ some k ≠ v.ownBlock ∧ k < w.heap.size) ces x) (h63 : xs.length + ys.length ≤ maxLen) (hbytes : (xs.length + ys.length) * bytes ≤ 140737488355328) (hbase : base ≤ w.heap.size)
    (h : ∀ v' w', OwnF T w' base F v' (xs ++ ys) → w.grownBy w' v.ownBlock → (v'.ownBlock = v.ownBlock ∨ v'.ownBlock = some w.heap.size) → K (a.put o.dst v') w') :
    if Region.wanted o (yielded ops a.tmps) = true then Oper.wp P o a w K Q else E := by
  obtain ⟨css, h1, h2, h3, h4⟩ := hown
  have hrow : ∃ news : List (List Value), news.length = ys.length ∧ (∀ (i : Nat) (c : List Value) (x : α), news[i]? = some c → ys[i]? = some x → T.R w (fun k => F k ∧ some k ≠ v.ownBlock ∧ k < w.heap.size) c x) ∧ (∀ c ∈ news, c.length = T.n) ∧
      ∀ (j : Nat) (u : Value), news.flatten[j]? = some u → w.cell? (ad.add j) = some u := by
    clear h hx h63 hbytes h1 h2 h3 h4
    revert ad
    induction ys with
    | nil => intro ad _; exact ⟨[], rfl, by simp, by simp, by simp⟩
    | cons x r ih =>
      intro ad hys
      obtain ⟨c0, hc, hr⟩ := hys 0 x rfl
      obtain ⟨css, h1, h2, h3, h4⟩ := ih (ad.add T.n) (fun i y hy => by
        obtain ⟨ces, hc, hr⟩ := hys (i + 1) y (by simpa using hy)
        refine ⟨ces, fun j u hu => ?_, hr⟩
        have := hc j u hu
        rw [← this, Go.Addr.add_add, Go.Addr.add_add, Go.Addr.add_add]
        congr 2
        rw [Nat.add_mul]
        omega)
      have hl0 := T.len hr
      refine ⟨c0 :: css, by simp [h1], ?_, ?_, ?_⟩
      · intro i c y hi hy
        cases i with
        | zero => simp at hi hy; subst hi; subst hy; exact hr
        | succ i => exact h2 i c y (by simpa using hi) (by simpa using hy)
      · intro c hc'
        rcases List.mem_cons.1 hc' with rfl | h
        · exact hl0
        · exact h3 c h
      · intro j u hj
        rw [List.flatten_cons] at hj
        by_cases hlt' : j < c0.length
        · rw [List.getElem?_append_left hlt'] at hj
          have := hc j u hj
          rwa [Nat.zero_mul, Go.Addr.add_add, Nat.zero_add] at this
        · rw [List.getElem?_append_right (by omega)] at hj
          have := h4 _ u hj
          rw [Go.Addr.add_add] at this
          rw [← this]
          congr 2
          omega
  obtain ⟨news, n2, n4, n3, n5⟩ := hrow
  have hw : Region.wanted o (yielded ops a.tmps) = true := by simp [Region.wanted, hgd]
  rw [if_pos hw]
  obtain ⟨v', w', hrun, r1, r2, r3, r4⟩ := run_append_own_at (P := P) w base t o.type e i z T.n bytes ht hi hz hsize hby hzs hsz v xs.length css.flatten h1 ad ys.length c news.flatten (by rw [flat_len n3, n2]) n5 (by
    intro u hu
    obtain ⟨c', hc', hu'⟩ := List.mem_flatten.1 hu
    obtain ⟨k, hk, rfl⟩ := List.mem_iff_getElem.1 hc'
    exact h1c w _ _ _ (n4 k _ _ (List.getElem?_eq_getElem hk) (List.getElem?_eq_getElem (by omega))) u hu') h63 hbytes hbase
  unfold Oper.wp
  simp [execOp, ho, resolve, invoke, builtin, hs, hx, hrun, Result.andThen]
  exact h v' w' (OwnF.app h2 h3 h4 n2 n3 n4 r1 r2 r4) r2 r4
end
end Go.Proofs.YtfnmlpnncjhnmaaGreat


/- The document's partners, walked. -/
set_option linter.unusedVariables false
set_option linter.unusedSimpArgs false
namespace Go.Proofs.YtfnmlpnncjhnmaaGreat
open Go.RowKit Go.Maps Go.Deep

set_option maxHeartbeats 16000000 in
set_option maxRecDepth 100000 in
theorem r10Partners_any (J : List Jn) (a : Option Addr) (cap : Nat) (e f t : Int) (w : World) {F : Nat → Prop} (hs : Sl tJn w F a J) (hV : ValJ J) :
    Calls Tryz.prog 17 #[.slice a J.length cap, .int .i64 e, .int .i64 f, .int .i64 t] w fun en w' => ∃ v, en = .returned v ∧ OwnL tPair w' w.heap.size v (parR J e f t) ∧ Below w.heap.size w w' := by
  have HPR := Lib.hid (par_is hV e f t)
  have HS := Lib.hid hs
  have HV := Lib.hid hV
  have HAM := Lib.hid (linesOf_amt hV e f t)
  have hln := linesOf_len hV.good (by have := hV.len; omega) e f t
  obtain ⟨i0, hi, hz0, hz1, hz2⟩ := info_parts infoPair
  clear hs hV
  go_enter Tryz.func17, Tryz.ntmps17
  go_wp2_with fail
  refine (r10Lines_any J a cap e f t w HS.out HV.out.good (by have := HV.out.len; omega)).mono ?_
  rintro en w2 ⟨v, rfl, ho, hb⟩
  have HB2 := Lib.hid hb
  obtain ⟨ls, hls⟩ : ∃ ls, linesOf J e f t = ls := ⟨_, rfl⟩
  rw [hls] at ho HPR HAM hln
  obtain ⟨la, lc, rfl, _, _, hsl⟩ := ho.slice
  have HSL := Lib.hid hsl
  clear hb hls ho hsl HS HV
  have hl' : ls.length ≤ 9223372036854775807 := by omega
  go_wp2_with fail
  go_loopw [9, 11] (fun vo vi wr => ∃ (n : Nat) (vx : Value), vx = vo ∧ n ≤ ls.length ∧ vi = .int .i64 n ∧ OwnL tBal wr w.heap.size vx (refS (toP (ls.take n))) ∧ Below w2.heap.size w2 wr) (fun _ vi _ => ls.length - (intOf vi).toNat)
  case atStart => exact ⟨0, _, rfl, Nat.zero_le _, rfl, OwnL.nil _ _, Below.refl _ _⟩
  case round =>
    obtain ⟨n, vo, rfl, hn, rfl, ho, hb⟩ := hrel
    have HO := Lib.hid ho
    have HB := Lib.hid hb
    clear ho hb
    have htl : (toP (ls.take n)).length ≤ 8000 := by
      have := toP_len (ls.take n)
      rw [List.length_take] at this
      omega
    have hrl : (refS (toP (ls.take n))).length ≤ 8000 := by
      have := (refS_all _ (toP (ls.take n)) rfl).2.2
      omega
    by_cases hlt : n < ls.length
    · obtain ⟨ad, rfl, _, hadl, hc0, hc1, hc2, hgx⟩ := ln_at (Sl.keep (fun k hk _ => HB.out.block k hk) HSL.out) n hlt
      have HY := Lib.hid (fun h => toP_succ_yes hlt h)
      have HNO := Lib.hid (fun h => toP_succ_no hlt h)
      have hmx := HAM.out _ (List.getElem_mem hlt)
      have HRB : Hid (∀ x ∈ refS (toP (ls.take n)), -8000000000000000000 ≤ x.2 ∧ x.2 ≤ 8000000000000000000) := Lib.hid (refS_bd (toP_amt (fun x hx => HAM.out x (List.mem_of_mem_take hx))) htl)
      generalize ls[n] = x at *
      obtain ⟨oa, oc, rfl, _, _, hos⟩ := HO.out.slice
      have HKA : Hid (I64 x.par) := Lib.hid hgx.2.2
      by_cases hp : 0 < x.par
      · have HN : Hid (refS (toP (ls.take (n + 1))) = putL (refS (toP (ls.take n))) x.par x.amt) := Lib.hid (by rw [HY.out hp, refS_snoc])
        have hcell := And.intro hc2 hc1
        have HCE : Hid (∀ W, Below wr.heap.size wr W → (W.cell? ⟨(ad.add (n * 3)).block, (ad.add (n * 3)).off + 2, none⟩ = some (.int .i64 x.par) ∧ W.cell? ⟨(ad.add (n * 3)).block, (ad.add (n * 3)).off + 1, none⟩ = some (.int .i64 x.amt))) := Lib.hid (fun W hb => by
          have hbk : W.heap[(ad.add (n * 3)).block]? = wr.heap[(ad.add (n * 3)).block]? := by rw [add_block]; exact hb.block _ hadl
          exact ⟨by rw [← hcell.1]; exact World.cell?_of_block (w := wr) hbk, by rw [← hcell.2]; exact World.cell?_of_block (w := wr) hbk⟩)
        have HPU := Lib.hid (r10Put_any (refS (toP (ls.take n))) oa oc x.par x.amt wr.drew (Sl.keep (w := wr) (w' := wr.drew) (fun k hk _ => rfl) hos) (by omega) HKA.out hmx.1 hmx.2 HRB.out)
        have HBD : Hid (Below wr.heap.size wr wr.drew) := Lib.hid (Below.drew (Below.refl _ _))
        clear hos hgx hmx hcell hc0
        go_wp2_with fail
        go_region_held3 (fun w' => w'.cell? ⟨(ad.add (n * 3)).block, (ad.add (n * 3)).off + 2, none⟩ = some (.int .i64 x.par) ∧ w'.cell? ⟨(ad.add (n * 3)).block, (ad.add (n * 3)).off + 1, none⟩ = some (.int .i64 x.amt)) (first | with_reducible exact HCE.out _ HB4.out | with_reducible exact HCE.out _ HBD.out) ((go_at_call 39; refine HPU.out.mono ?_; rintro en w4 ⟨v4, rfl, ho, hb⟩; have HB4 : Hid (Below wr.heap.size wr w4) := Lib.hid (belows_then HBD.out HBD.out.size hb); have HO4 := Lib.hid ho; clear ho hb))
        have HON : Hid (OwnL tBal w4 w.heap.size v4 (refS (toP (ls.take (n + 1))))) := Lib.hid (by rw [HN.out]; exact HO4.out.mono (Nat.le_trans HB2.out.size HB.out.size))
        have HBN := Lib.hid (belows_then HB.out HB.out.size HB4.out)
        go_wp2_with fail
        go_roundw
        case rel => exact ⟨n + 1, _, rfl, by omega, by go_num, HON.out, HBN.out⟩
        case measure => simp [intOf]; omega
      · have HN : Hid (toP (ls.take (n + 1)) = toP (ls.take n)) := Lib.hid (HNO.out hp)
        have hp' : x.par ≤ 0 := by omega
        clear hos hgx hmx hc0 hc1
        go_wp2_with fail
        go_roundw
        case rel => exact ⟨n + 1, _, rfl, by omega, by go_num, by rw [HN.out]; exact HO.out, HB.out⟩
        case measure => simp [intOf]; omega
    · have hown := HO.out
      rw [take_all hn hlt] at hown hrl
      have HBW := Lib.hid (HB2.out.trans (HB.out.mono HB2.out.size))
      obtain ⟨oa, oc, rfl, _, _, hos⟩ := hown.slice
      have HOS := Lib.hid hos
      obtain ⟨S, hS⟩ : ∃ S, refS (toP ls) = S := ⟨_, rfl⟩
      rw [hS] at HPR HOS hrl ⊢
      clear hown hos hS HO htl
      go_wp2_with fail
      refine abs_world (S := fun wx => Below w.heap.size w wx ∧ Sl tBal wx (fun _ => True) oa S) ?_ ⟨HBW.out, HOS.out⟩
      rintro wz ⟨hbz, hoz⟩
      have HBZ := Lib.hid hbz
      have HOZ := Lib.hid hoz
      clear hbz hoz HBW HOS HB HSL HB2
      have hl2 : S.length ≤ 9223372036854775807 := by omega
      go_loopw [12, 13] (fun vo vi wr => ∃ (m : Nat) (vx : Value), vx = vo ∧ m ≤ S.length ∧ vi = .int .i64 m ∧ OwnL tPair wr wz.heap.size vx ((S.take m).filter nzB) ∧ Below wz.heap.size wz wr) (fun _ vi _ => S.length - (intOf vi).toNat)
      case atStart => exact ⟨0, _, rfl, Nat.zero_le _, rfl, OwnL.nil _ _, Below.refl _ _⟩
      case round =>
        obtain ⟨m, vo, rfl, hm, rfl, ho, hb⟩ := hrel
        have HO := Lib.hid ho
        have HB := Lib.hid hb
        clear ho hb
        by_cases hlt2 : m < S.length
        · obtain ⟨ad, rfl, _, hadl, hc0, hc1, g0, g1⟩ := bal_at (Sl.keep (fun k hk _ => HB.out.block k hk) HOZ.out) m hlt2
          have HY := Lib.hid (fun h => filter_yes nzB hlt2 h)
          have HN := Lib.hid (fun h => filter_no nzB hlt2 h)
          have hnum : ((S.take m).filter nzB).length ≤ 8000 := by
            have := List.length_filter_le nzB (S.take m)
            rw [List.length_take] at this
            omega
          generalize S[m] = x at *
          obtain ⟨k, v⟩ := x
          simp only at hc0 hc1 g0 g1
          by_cases h0 : v = 0
          · subst h0
            have HN2 := Lib.hid (HN.out rfl)
            clear g0 g1 hc0
            go_wp2_with fail
            go_roundw
            case rel => exact ⟨m + 1, _, rfl, by omega, by go_num, by rw [HN2.out]; exact HO.out, HB.out⟩
            case measure => simp [intOf]; omega
          · have hne : (v != 0) = true := by simpa using h0
            have HY2 := Lib.hid (HY.out hne)
            have G0 := Lib.hid g0
            have G1 := Lib.hid g1
            have HBD : Hid (Below wr.heap.size wr wr.drew) := Lib.hid (Below.drew (Below.refl _ _))
            have hd0 : wr.drew.cell? (ad.add (m * 2)) = some (.int .i64 k) := hc0
            have hd1 : wr.drew.cell? ⟨(ad.add (m * 2)).block, (ad.add (m * 2)).off + 1, none⟩ = some (.int .i64 v) := hc1
            have HOA : Hid (OwnL tPair ((wr.alloc (.cells #[.int .i64 k, .int .i64 v] 110)).drew) wz.heap.size vo ((S.take m).filter nzB)) := Lib.hid ((HO.out.alloc (.cells #[.int .i64 k, .int .i64 v] 110)).keep (Nat.le_refl _) (fun _ _ => rfl))
            have HBA := Lib.hid ((HB.out.alloc HB.out.size (.cells #[.int .i64 k, .int .i64 v] 110)).drew)
            have HSP : Hid (Sl tPair ((wr.alloc (.cells #[.int .i64 k, .int .i64 v] 110)).drew) (fun kk => some kk ≠ vo.ownBlock ∧ kk < ((wr.alloc (.cells #[.int .i64 k, .int .i64 v] 110)).drew).heap.size) (some ⟨wr.heap.size, 0, none⟩) [(k, v)]) :=
              Lib.hid (sl_one2 tPair (x := (k, v)) rfl (blk_new wr _) ⟨fun e => by have := (HO.out.lt _ e.symm).2; omega, by show wr.heap.size < (wr.alloc (.cells #[.int .i64 k, .int .i64 v] 110)).heap.size; simp⟩ (pair_mk (k, v) G0.out G1.out))
            have h63 : ((S.take m).filter nzB).length + [((k, v) : Int × Int)].length ≤ maxLen := by simp only [List.length_cons, List.length_nil]; unfold maxLen; omega
            have hby : (((S.take m).filter nzB).length + [((k, v) : Int × Int)].length) * 16 ≤ 140737488355328 := by simp only [List.length_cons, List.length_nil]; omega
            clear g0 g1 h0
            go_wp2_with fail
            go_region_law (refine step_app (T := tPair) rfl (.tmp 55) (.tmp 67) 50 rfl i0 (.agg #[.int .i64 0, .int .i64 0]) 16 Tryz.underlying50 hi hz0 hz1 hz2 rfl (by decide) pair_one wz.heap.size vo ((S.take m).filter nzB) (by simp [Act.eval, Act.put]) HOA.out ⟨wr.heap.size, 0, none⟩ 1 [(k, v)] (by simp [Act.eval, Act.put]) HSP.out h63 hby HBA.out.size ?_; intro v6 w6 hown hg hat; have HO6 := Lib.hid hown; have HB6 := Lib.hid (Below.grown HBA.out hg HBA.out.size (fun k e => (HOA.out.lt k e).1)); clear hown hg hat)
            all_goals
              go_wp2_with fail
              go_roundw
              case rel => exact ⟨m + 1, _, rfl, by omega, by go_num, by rw [HY2.out]; exact HO6.out, HB6.out⟩
              case measure => simp [intOf]; omega
        · have hown := HO.out
          rw [take_all hm hlt2] at hown
          have HFIN : Hid (OwnL tPair wr w.heap.size vo (parR J e f t)) := Lib.hid (by rw [HPR.out]; exact hown.mono HBZ.out.size)
          have HBF := Lib.hid (HBZ.out.trans (HB.out.mono HBZ.out.size))
          clear hown
          go_wp2_with fail
          go_ret
          exact ⟨vo, rfl, HFIN.out, HBF.out⟩
end Go.Proofs.YtfnmlpnncjhnmaaGreat
