/- The document's Net, Balances. -/
import Derived.Test.YtfnmlpnncjhnmaaGreatX33TrialTells
import Derived.Test.YtfnmlpnncjhnmaaGreatX31TrialTells
import Derived.Deep.RegionHeld3
import Derived.Test.YtfnmlpnncjhnmaaGreatX21TrialTells
import Derived.Test.YtfnmlpnncjhnmaaGreatX19TrialTells
import Derived.Test.YtfnmlpnncjhnmaaGreatX22TrialTells
set_option linter.unusedVariables false
set_option linter.unusedSimpArgs false
namespace Go.Proofs.YtfnmlpnncjhnmaaGreat
open Go.RowKit Go.Maps Go.Deep

set_option maxHeartbeats 8000000 in
set_option maxRecDepth 100000 in
theorem r10Net_any (r : List Ac) (ra : Option Addr) (rc : Nat) (l : List (Int × Int)) (a : Option Addr) (cap : Nat) (w : World) {F G : Nat → Prop} (hr : Sl tAc w G ra r) (hrl : r.length ≤ maxLen) (hs : Sl tBal w F a l) (hl : l.length ≤ 1000) (hfit : ∀ x ∈ l, fitsB x.2 = true) :
    Calls Tryz.prog 23 #[.slice ra r.length rc, .slice a l.length cap] w fun en w' => en = .returned (.tuple #[.int .i64 (netA r l), .int .i64 (netB r l), .bool (netF r l)]) ∧ Below w.heap.size w w' := by
  have HS := Lib.hid hs
  have HR := Lib.hid hr
  have HF := Lib.hid hfit
  have b1 := pickS_bd r 4 true l hfit
  have b2 := pickS_bd r 5 false l hfit
  have HP := Lib.hid (r10Pick_any r ra rc l a cap 4 true w hr hrl hs hl hfit)
  change _ ≤ netA r l ∧ netA r l ≤ _ at b1
  change _ ≤ netB r l ∧ netB r l ≤ _ at b2
  have HA : Hid (sumI ((pickS r l 4 true).map (·.2)) = netA r l) := Lib.hid rfl
  have HB : Hid (sumI ((pickS r l 5 false).map (·.2)) = netB r l) := Lib.hid rfl
  have HNF : Hid (netF r l = ((fitsB (netA r l) && fitsB (netB r l)) && fitsB (netA r l - netB r l))) := Lib.hid rfl
  rw [HA.out] at HP
  clear hr hs hfit HA
  generalize netF r l = q at *
  have hP5 : ∀ W, Below w.heap.size w W → Calls Tryz.prog 22 #[.slice ra r.length rc, .slice a l.length cap, .int .i64 5, .bool false] W fun en w' => ∃ v, en = .returned (.tuple #[v, .int .i64 (netB r l)]) ∧ OwnL tBal w' W.heap.size v (pickS r l 5 false) ∧ Below W.heap.size W w' := fun W hb => by
    have := r10Pick_any r ra rc l a cap 5 false W (Sl.keep (fun k hk _ => hb.block k hk) HR.out) hrl (Sl.keep (fun k hk _ => hb.block k hk) HS.out) hl HF.out
    rw [HB.out] at this
    exact this
  have HP5 := Lib.hid hP5
  clear hP5 HB
  generalize netA r l = x at *
  generalize netB r l = y at *
  have hw : IntKind.i64.wrap (x - y) = x - y := wrap_is (by omega) (by omega)
  go_enter Tryz.func23, Tryz.ntmps23
  go_wp2_with fail
  refine HP.out.mono ?_
  rintro en w1 ⟨v1, rfl, _, hb⟩
  have HB1 := Lib.hid hb
  clear hb
  go_wp2_with fail
  refine (HP5.out w1 HB1.out).mono ?_
  rintro en w2 ⟨v2, rfl, _, hb⟩
  have HB2 := Lib.hid (belows_then HB1.out HB1.out.size hb)
  clear hb HP HP5
  go_wp2_with fail
  refine (rfits_any x w2).mono ?_
  rintro en w3 ⟨rfl, rfl⟩
  cases hx : fitsB x
  · have HQ : Hid (q = false) := Lib.hid (by rw [HNF.out, hx]; rfl)
    clear hx
    go_wp2_with fail
    refine bodyPost_ret (v := .tuple #[.int .i64 x, .int .i64 y, .bool false]) (by simp [results, Tryz.results23, go_sem]) rfl ?_
    rw [HQ.out]
    exact ⟨rfl, HB2.out⟩
  · have HX := Lib.hid hx
    clear hx
    go_wp2_with fail
    refine (rfits_any y w3).mono ?_
    rintro en w4 ⟨rfl, rfl⟩
    cases hy : fitsB y
    · have HQ : Hid (q = false) := Lib.hid (by rw [HNF.out, HX.out, hy]; rfl)
      clear hy
      go_wp2_with fail
      refine bodyPost_ret (v := .tuple #[.int .i64 x, .int .i64 y, .bool false]) (by simp [results, Tryz.results23, go_sem]) rfl ?_
      rw [HQ.out]
      exact ⟨rfl, HB2.out⟩
    · have HQ : Hid (q = fitsB (x - y)) := Lib.hid (by rw [HNF.out, HX.out, hy]; rfl)
      clear hy
      go_wp2_with fail
      refine (rfits_any (x - y) w4).mono ?_
      rintro en w5 ⟨rfl, rfl⟩
      go_wp2_with fail
      refine bodyPost_ret (v := .tuple #[.int .i64 x, .int .i64 y, .bool (fitsB (x - y))]) (by simp [results, Tryz.results23, go_sem]) rfl ?_
      rw [HQ.out]
      exact ⟨rfl, HB2.out⟩

theorem plain_bal {J : List Jn} (hV : ValJ J) {e f t : Int} (hr : rightB e f t = true) : (balT J e f t = ((plainT (refS (linesOf J e f t))).1, if (plainT (refS (linesOf J e f t))).2 then 0 else 2)) := by
  rw [ref_bal hV]
  unfold balT
  rw [hr]
  cases (accR J e f t).all (fun x => fitsB x.2) <;> rfl

set_option maxHeartbeats 16000000 in
set_option maxRecDepth 100000 in
theorem r10Balances_any (J : List Jn) (a : Option Addr) (cap : Nat) (e f t : Int) (w : World) {F : Nat → Prop} (hs : Sl tJn w F a J) (hV : ValJ J) (h1 : 1 ≤ e) (h2 : e ≤ 9) (hf : monthOk f = true) (ht : monthOk t = true) (hft : f ≤ t) :
    Calls Tryz.prog 10 #[.slice a J.length cap, .int .i64 e, .int .i64 f, .int .i64 t] w (BalPost w (balT J e f t)) := by
  have hr : rightB e f t = true := by
    unfold rightB entB
    simp [h1, h2, hf, ht, hft]
  have HPB := Lib.hid (plain_bal hV hr)
  have HR := Lib.hid (r10Right_is e f t h1 h2 hf ht hft w)
  have HS := Lib.hid hs
  have HV := Lib.hid hV
  have HAM := Lib.hid (linesOf_amt hV e f t)
  have hln := linesOf_len hV.good (by have := hV.len; omega) e f t
  clear hs hV hf ht hr h1 h2 hft
  go_enter Tryz.func10, Tryz.ntmps10
  go_wp2_with fail
  refine HR.out.mono ?_
  rintro en w1 ⟨rfl, hb⟩
  have HB1 := Lib.hid hb
  clear hb HR
  go_wp2_with fail
  refine (r10Lines_any J a cap e f t w1 (Sl.keep (fun k hk _ => HB1.out.block k hk) HS.out) HV.out.good (by have := HV.out.len; omega)).mono ?_
  rintro en w2 ⟨v, rfl, ho, hb⟩
  have HB2 := Lib.hid (belows_then HB1.out HB1.out.size hb)
  obtain ⟨ls, hls⟩ : ∃ ls, linesOf J e f t = ls := ⟨_, rfl⟩
  rw [hls] at ho HPB HAM hln
  obtain ⟨la, lc, rfl, _, _, hsl⟩ := ho.slice
  have HSL := Lib.hid hsl
  clear hb hls ho hsl HB1 HS HV
  have hl' : ls.length ≤ 9223372036854775807 := by omega
  go_wp2_with fail
  go_loopw [10, 12] (fun vo vi wr => ∃ (n : Nat) (vx : Value), vx = vo ∧ n ≤ ls.length ∧ vi = .int .i64 n ∧ OwnL tBal wr w.heap.size vx (refS (ls.take n)) ∧ Below w2.heap.size w2 wr) (fun _ vi _ => ls.length - (intOf vi).toNat)
  case atStart => exact ⟨0, _, rfl, Nat.zero_le _, rfl, OwnL.nil _ _, Below.refl _ _⟩
  case round =>
    obtain ⟨n, vo, rfl, hn, rfl, ho, hb⟩ := hrel
    have HO := Lib.hid ho
    have HB := Lib.hid hb
    clear ho hb
    have hrl : (refS (ls.take n)).length ≤ 8000 := by
      have := (refS_all _ (ls.take n) rfl).2.2
      rw [List.length_take] at this
      omega
    by_cases hlt : n < ls.length
    · obtain ⟨ad, rfl, _, hadl, hc0, hc1, hc2, hgx⟩ := ln_at (Sl.keep (fun k hk _ => HB.out.block k hk) HSL.out) n hlt
      have HN := Lib.hid (refS_succ ls n hlt)
      have hmx := HAM.out _ (List.getElem_mem hlt)
      have HRB : Hid (∀ x ∈ refS (ls.take n), -8000000000000000000 ≤ x.2 ∧ x.2 ≤ 8000000000000000000) := Lib.hid (refS_bd (fun x hx => HAM.out x (List.mem_of_mem_take hx)) (by rw [List.length_take]; omega))
      generalize ls[n] = x at *
      obtain ⟨oa, oc, rfl, _, _, hos⟩ := HO.out.slice
      have HKA : Hid (I64 x.acc) := Lib.hid hgx.1
      have hcell := And.intro hc0 hc1
      have HCE : Hid (∀ W, Below wr.heap.size wr W → (W.cell? (ad.add (n * 3)) = some (.int .i64 x.acc) ∧ W.cell? ⟨(ad.add (n * 3)).block, (ad.add (n * 3)).off + 1, none⟩ = some (.int .i64 x.amt))) := Lib.hid (fun W hb => by
        have hbk : W.heap[(ad.add (n * 3)).block]? = wr.heap[(ad.add (n * 3)).block]? := by rw [add_block]; exact hb.block _ hadl
        exact ⟨by rw [← hcell.1]; exact World.cell?_of_block (w := wr) hbk, by rw [← hcell.2]; exact World.cell?_of_block (w := wr) hbk⟩)
      have HPU := Lib.hid (r10Put_any (refS (ls.take n)) oa oc x.acc x.amt wr.drew (Sl.keep (w := wr) (w' := wr.drew) (fun k hk _ => rfl) hos) (by omega) HKA.out hmx.1 hmx.2 HRB.out)
      have HBD : Hid (Below wr.heap.size wr wr.drew) := Lib.hid (Below.drew (Below.refl _ _))
      clear hos hgx hmx hcell
      go_wp2_with fail
      go_region_held3 (fun w' => w'.cell? (ad.add (n * 3)) = some (.int .i64 x.acc) ∧ w'.cell? ⟨(ad.add (n * 3)).block, (ad.add (n * 3)).off + 1, none⟩ = some (.int .i64 x.amt)) (first | with_reducible exact HCE.out _ HB4.out | with_reducible exact HCE.out _ HBD.out) ((go_at_call 39; refine HPU.out.mono ?_; rintro en w4 ⟨v4, rfl, ho, hb⟩; have HB4 : Hid (Below wr.heap.size wr w4) := Lib.hid (belows_then HBD.out HBD.out.size hb); have HO4 := Lib.hid ho; clear ho hb))
      have HON : Hid (OwnL tBal w4 w.heap.size v4 (refS (ls.take (n + 1)))) := Lib.hid (by rw [HN.out]; exact HO4.out.mono (Nat.le_trans HB2.out.size HB.out.size))
      have HBN := Lib.hid (belows_then HB.out HB.out.size HB4.out)
      go_wp2_with fail
      go_roundw
      case rel => exact ⟨n + 1, _, rfl, by omega, by go_num, HON.out, HBN.out⟩
      case measure => simp [intOf]; omega
    · have hown := HO.out
      rw [take_all hn hlt] at hown hrl
      have HBW := Lib.hid (HB2.out.trans (HB.out.mono HB2.out.size))
      obtain ⟨oa, oc, rfl, _, _, hos⟩ := hown.slice
      have HPL := Lib.hid (r10Plain_any (refS ls) oa oc wr hos (by omega))
      obtain ⟨q, ok, hq⟩ : ∃ q ok, plainT (refS ls) = (q, ok) := ⟨_, _, rfl⟩
      have hpb := HPB.out
      rw [hq] at HPL hpb
      have HQ := Lib.hid hpb
      clear hown hos hq hpb HPB HO
      simp only at HPL HQ
      go_wp2_with fail
      refine HPL.out.mono ?_
      rintro en w5 ⟨v5, rfl, ho, hb⟩
      have HB5 := Lib.hid (belows_then HBW.out HBW.out.size hb)
      have HO5 := Lib.hid (ho.mono HBW.out.size)
      clear ho hb
      cases ok
      · go_wp2_with fail
        go_ret2
        unfold BalPost
        rw [HQ.out]
        have hz : q = [] := by
          have h := congrArg Prod.fst HQ.out
          have h2 := congrArg Prod.snd HQ.out
          rcases balT_cases J e f t with hc | hc | ⟨_, _, hc⟩
          · rw [hc] at h; exact h.symm
          · rw [hc] at h; exact h.symm
          · rw [hc] at h2; cases h2
        rw [hz]
        exact ⟨_, rfl, OwnL.nil _ _, HB5.out⟩
      · go_wp2_with fail
        go_ret2
        unfold BalPost
        rw [HQ.out]
        exact ⟨_, rfl, HO5.out, HB5.out⟩
end Go.Proofs.YtfnmlpnncjhnmaaGreat


/- Copies of lists that were handed in; lists apart from each other. -/
set_option linter.unusedVariables false
set_option linter.unusedSimpArgs false
namespace Go.Proofs.YtfnmlpnncjhnmaaGreat
open Go.RowKit Go.Maps Go.Deep

/-- a list that is nil has no room -/
def Ty.sliceN {P : Program} {t e : TypeId} {α : Type} (h : P.underlying t = some (.slice e)) (hn : P.cellsOf t = 1) (T : Ty P e α) (hpos : 0 < T.n) : Ty P t (List α) where
  n := 1
  R := fun w F cs xs => (Ty.slice h hn T hpos).R w F cs xs ∧ ∀ n c, cs = [.slice none n c] → c = 0
  hn := hn
  len := fun h0 => (Ty.slice h hn T hpos).len h0.1
  keep := fun hb h0 => ⟨(Ty.slice h hn T hpos).keep hb h0.1, h0.2⟩
  mono := fun hb h0 => ⟨(Ty.slice h hn T hpos).mono hb h0.1, h0.2⟩
  of := by
    intro H enc w fuel cs d ps h1 h2
    obtain ⟨x, hx⟩ := (Ty.slice h hn T hpos).of h1 h2
    refine ⟨x, hx, ?_⟩
    intro n c he
    rcases open_slice h h1 with ⟨rfl, _⟩ | ⟨a, len, cap, m, n, D, Pl, rfl, _⟩
    · simp only [List.cons.injEq, Value.slice.injEq, and_true] at he
      exact he.2.2.symm
    · simp at he
def tBals : Ty Tryz.prog 32 (List (Int × Int)) := Ty.sliceN Tryz.underlying32 (by kernel_rfl) tBal (by decide)

theorem Sl.ofw {w w' : World} {a : Option Addr} {xs : List (Int × Int)} {F : Nat → Prop} {v : Value} (h : Sl tBal w F a xs) (hb : ∀ k, k < w.heap.size → w'.heap[k]? = w.heap[k]?) (hs : w.heap.size ≤ w'.heap.size) (hv : ∀ k, v.ownBlock = some k → w.heap.size ≤ k) :
    Sl tBal w' (fun k => some k ≠ v.ownBlock ∧ k < w'.heap.size) a xs := by
  intro i x hx
  obtain ⟨ad, ces, ha, _, hlt, hc, hr⟩ := h i x hx
  refine ⟨ad, ces, ha, ⟨fun e => by have := hv _ e.symm; omega, by omega⟩, by omega, fun j u hu => ?_, ?_⟩
  · rw [← hc j u hu]
    exact World.cell?_of_block (w := w) (by rw [add_block, add_block]; exact hb _ hlt)
  · obtain ⟨rfl, h1, h2⟩ := bal_inv hr
    exact bal_mk _ h1 h2

theorem LentB.sl {w : World} {base : Nat} {v : Value} {l : List (Int × Int)} (h : LentB w base v l) : ∃ g cap, v = .slice (some ⟨g, 0, none⟩) l.length cap ∧ Sl tBal w (fun _ => True) (some ⟨g, 0, none⟩) l := by
  obtain ⟨g, cap, h1, _, _, ho⟩ := h
  exact ⟨g, cap, h1, ho.sl.left⟩

set_option maxHeartbeats 2000000 in
set_option maxRecDepth 100000 in
theorem cpBal_sl (l : List (Int × Int)) (a : Option Addr) (cap : Nat) (w : World) {F : Nat → Prop} (hs : Sl tBal w F a l) (hl : l.length ≤ 100000) (hna : a = none → l = [] ∧ cap = 0) :
    Calls Tryz.prog 47 #[.slice a l.length cap] w fun e w' => ∃ v', e = .returned v' ∧ OwnL tBal w' w.heap.size v' l ∧ Below w.heap.size w w' := by
  obtain ⟨i0, hi, hz0, hz1, hz2⟩ := info_parts infoBal
  have HS : Hid (Sl tBal w (fun k => some k ≠ (Value.slice none 0 0).ownBlock ∧ k < w.heap.size) a l) := Lib.hid (Sl.ofw hs (fun _ _ => rfl) (Nat.le_refl _) (fun k e => by cases e))
  have HNA := Lib.hid hna
  have h63 : ([] : List (Int × Int)).length + l.length ≤ maxLen := by simp only [List.length_nil]; unfold maxLen; omega
  have hby : (([] : List (Int × Int)).length + l.length) * 16 ≤ 140737488355328 := by simp only [List.length_nil]; omega
  clear hs hna
  go_enter Tryz.func47, Tryz.ntmps47
  go_wp2_with (at_builtin; refine wp_appA (T := tBal) rfl _ _ 32 rfl i0 (.agg #[.int .i64 0, .int .i64 0]) 16 Tryz.underlying32 hi hz0 hz1 hz2 rfl (by decide) bal_one w.heap.size (.slice none 0 0) [] rfl (OwnL.nil _ _) a cap l rfl HNA.out HS.out h63 hby (Nat.le_refl _) ?_; intro v' w' hown hg hat; have HO := Lib.hid hown; have HB := Lib.hid (Below.grown (Below.refl w.heap.size w) hg (Nat.le_refl _) (fun k e => by cases e)); clear hown hg hat)
  go_ret
  exact ⟨v', rfl, by simpa using HO.out, HB.out⟩

theorem sl_intsB {w : World} {b : Nat} (xs : List Int) (hb : w.heap[b]? = some (.cells (xs.map (Value.int .i64)).toArray 3 (0, 0))) (h : ∀ x ∈ xs, I64 x) : Sl tInt w (fun _ => True) (some ⟨b, 0, none⟩) xs := by
  intro i x hx
  have hlt : i < xs.length := (List.getElem?_eq_some_iff.1 hx).1
  refine ⟨_, [.int .i64 x], rfl, trivial, (Array.getElem?_eq_some_iff.1 hb).1, fun j v hv => ?_, rfl, h x (List.mem_of_getElem? hx)⟩
  cases j with
  | succ j => simp at hv
  | zero =>
    simp at hv
    subst hv
    rw [Go.Addr.add_add]
    have : (⟨b, 0, none⟩ : Addr).add (i * tInt.n + 0) = ⟨b, i, none⟩ := by
      have e : i * tInt.n + 0 = i := by show i * 1 + 0 = i; omega
      rw [e]
      unfold Addr.add
      split <;> simp_all
    rw [this, cell_of_row w b i _ 3 (0, 0) hb]
    simp [hx]

/-- two lists of a call's own that share no block -/
def ApartV (u v : Value) : Prop := u.ownBlock = none ∨ u.ownBlock ≠ v.ownBlock
theorem ApartV.symm {u v : Value} (h : ApartV u v) : ApartV v u := by
  rcases h with h | h
  · cases hv : v.ownBlock with
    | none => exact .inl hv
    | some k => exact .inr (by rw [hv, h]; simp)
  · exact .inr (Ne.symm h)
theorem OwnL.apartB {w w' : World} {base : Nat} {v u : Value} {xs : List (Int × Int)} (h : OwnL tBal w base v xs) (hg : w.grownBy w' u.ownBlock) (hne : ApartV v u) : OwnL tBal w' base v xs := by
  obtain ⟨css, ⟨hr1, hr2⟩, hr3, hr4, hr5⟩ := h
  refine ⟨css, ⟨hr1, ?_⟩, hr3, hr4, fun i c y hi hy => ?_⟩
  · rcases hr2 with ⟨hn, h0⟩ | ⟨g, cap, cur, hg0, hbb, hc, rest⟩
    · exact .inl ⟨hn, h0⟩
    · refine .inr ⟨g, cap, cur, hg0, hbb, ((hg.block g (blk_lt hc) (fun e => ?_)).trans hc), rest⟩
      rcases hne with hne | hne
      · rw [hg0] at hne
        simp [Value.ownBlock] at hne
      · refine hne ?_
        rw [hg0]
        simpa [Value.ownBlock] using e
  · obtain ⟨rfl, h1, h2⟩ := bal_inv (hr5 i c y hi hy)
    exact bal_mk _ h1 h2
theorem ApartV.step {w : World} {base : Nat} {u v v' : Value} {xs : List (Int × Int)} (h : ApartV u v) (ho : OwnL tBal w base u xs) (hat : v'.ownBlock = v.ownBlock ∨ v'.ownBlock = some w.heap.size) : ApartV u v' := by
  rcases hat with e | e
  · unfold ApartV
    rw [e]
    exact h
  · right
    rw [e]
    intro he
    have := (ho.lt _ he).2
    omega
end Go.Proofs.YtfnmlpnncjhnmaaGreat
