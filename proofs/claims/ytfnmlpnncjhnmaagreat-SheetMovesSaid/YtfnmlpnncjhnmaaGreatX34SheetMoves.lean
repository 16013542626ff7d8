/- The document's Net, Balances. -/
import Derived.Test.YtfnmlpnncjhnmaaGreatX33SheetMoves
import Derived.Test.YtfnmlpnncjhnmaaGreatX30SheetMoves
import Derived.Deep.RegionHeld3
import Derived.Test.YtfnmlpnncjhnmaaGreatX18SheetMoves
import Derived.Test.YtfnmlpnncjhnmaaGreatX21SheetMoves
import Derived.Laws.AppendOwnNone
set_option linter.unusedVariables false
set_option linter.unusedSimpArgs false
namespace Go.Proofs.YtfnmlpnncjhnmaaGreat
open Go.RowKit Go.Maps Go.Deep

set_option maxHeartbeats 8000000 in
set_option maxRecDepth 100000 in
theorem r10Net_any (r : List Ac) (ra : Option Addr) (rc : Nat) (l : List (Int × Int)) (a : Option Addr) (cap : Nat) (w : World) {F G : Nat → Prop} (hr : Sl tAc w G ra r) (hrl : r.length ≤ maxLen) (hs : Sl tBal w F a l) (hl : l.length ≤ 1000) (hfit : ∀ x ∈ l, fitsB x.2 = true) :
    Calls Tryz.prog 23 #[.slice ra r.length rc, .slice a l.length cap] w fun en w' => en = .returned (.tuple #[.int .i64 (netA r l), .int .i64 (netB r l), .bool (netF r l)]) ∧ Below w.heap.size w w' := by
  have HS := Lib.hid hs
  have HR := Lib.hid hr
  have HF := Lib.hid hfit
  have b1 := pickS_bd r 4 true l hfit
  have b2 := pickS_bd r 5 false l hfit
  have HP := Lib.hid (r10Pick_any r ra rc l a cap 4 true w hr hrl hs hl hfit)
  change _ ≤ netA r l ∧ netA r l ≤ _ at b1
  change _ ≤ netB r l ∧ netB r l ≤ _ at b2
  have HA : Hid (sumI ((pickS r l 4 true).map (·.2)) = netA r l) := Lib.hid rfl
  have HB : Hid (sumI ((pickS r l 5 false).map (·.2)) = netB r l) := Lib.hid rfl
  have HNF : Hid (netF r l = ((fitsB (netA r l) && fitsB (netB r l)) && fitsB (netA r l - netB r l))) := Lib.hid rfl
  rw [HA.out] at HP
  clear hr hs hfit HA
  generalize netF r l = q at *
  have hP5 : ∀ W, Below w.heap.size w W → Calls Tryz.prog 22 #[.slice ra r.length rc, .slice a l.length cap, .int .i64 5, .bool false] W fun en w' => ∃ v, en = .returned (.tuple #[v, .int .i64 (netB r l)]) ∧ OwnL tBal w' W.heap.size v (pickS r l 5 false) ∧ Below W.heap.size W w' := fun W hb => by
    have := r10Pick_any r ra rc l a cap 5 false W (Sl.keep (fun k hk _ => hb.block k hk) HR.out) hrl (Sl.keep (fun k hk _ => hb.block k hk) HS.out) hl HF.out
    rw [HB.out] at this
    exact this
  have HP5 := Lib.hid hP5
  clear hP5 HB
  generalize netA r l = x at *
  generalize netB r l = y at *
  have hw : IntKind.i64.wrap (x - y) = x - y := wrap_is (by omega) (by omega)
  go_enter Tryz.func23, Tryz.ntmps23
  go_wp2_with fail
  refine HP.out.mono ?_
  rintro en w1 ⟨v1, rfl, _, hb⟩
  have HB1 := Lib.hid hb
  clear hb
  go_wp2_with fail
  refine (HP5.out w1 HB1.out).mono ?_
  rintro en w2 ⟨v2, rfl, _, hb⟩
  have HB2 := Lib.hid (belows_then HB1.out HB1.out.size hb)
  clear hb HP HP5
  go_wp2_with fail
  refine (rfits_any x w2).mono ?_
  rintro en w3 ⟨rfl, rfl⟩
  cases hx : fitsB x
  · have HQ : Hid (q = false) := Lib.hid (by rw [HNF.out, hx]; rfl)
    clear hx
    go_wp2_with fail
    refine bodyPost_ret (v := .tuple #[.int .i64 x, .int .i64 y, .bool false]) (by simp [results, Tryz.results23, go_sem]) rfl ?_
    rw [HQ.out]
    exact ⟨rfl, HB2.out⟩
  · have HX := Lib.hid hx
    clear hx
    go_wp2_with fail
    refine (rfits_any y w3).mono ?_
    rintro en w4 ⟨rfl, rfl⟩
    cases hy : fitsB y
    · have HQ : Hid (q = false) := Lib.hid (by rw [HNF.out, HX.out, hy]; rfl)
      clear hy
      go_wp2_with fail
      refine bodyPost_ret (v := .tuple #[.int .i64 x, .int .i64 y, .bool false]) (by simp [results, Tryz.results23, go_sem]) rfl ?_
      rw [HQ.out]
      exact ⟨rfl, HB2.out⟩
    · have HQ : Hid (q = fitsB (x - y)) := Lib.hid (by rw [HNF.out, HX.out, hy]; rfl)
      clear hy
      go_wp2_with fail
      refine (rfits_any (x - y) w4).mono ?_
      rintro en w5 ⟨rfl, rfl⟩
      go_wp2_with fail
      refine bodyPost_ret (v := .tuple #[.int .i64 x, .int .i64 y, .bool (fitsB (x - y))]) (by simp [results, Tryz.results23, go_sem]) rfl ?_
      rw [HQ.out]
      exact ⟨rfl, HB2.out⟩

theorem plain_bal {J : List Jn} (hV : ValJ J) {e f t : Int} (hr : rightB e f t = true) : (balT J e f t = ((plainT (refS (linesOf J e f t))).1, if (plainT (refS (linesOf J e f t))).2 then 0 else 2)) := by
  rw [ref_bal hV]
  unfold balT
  rw [hr]
  cases (accR J e f t).all (fun x => fitsB x.2) <;> rfl

set_option maxHeartbeats 16000000 in
set_option maxRecDepth 100000 in
theorem r10Balances_any (J : List Jn) (a : Option Addr) (cap : Nat) (e f t : Int) (w : World) {F : Nat → Prop} (hs : Sl tJn w F a J) (hV : ValJ J) (h1 : 1 ≤ e) (h2 : e ≤ 9) (hf : monthOk f = true) (ht : monthOk t = true) (hft : f ≤ t) :
    Calls Tryz.prog 10 #[.slice a J.length cap, .int .i64 e, .int .i64 f, .int .i64 t] w (BalPost w (balT J e f t)) := by
  have hr : rightB e f t = true := by
    unfold rightB entB
    simp [h1, h2, hf, ht, hft]
  have HPB := Lib.hid (plain_bal hV hr)
  have HR := Lib.hid (r10Right_is e f t h1 h2 hf ht hft w)
  have HS := Lib.hid hs
  have HV := Lib.hid hV
  have HAM := Lib.hid (linesOf_amt hV e f t)
  have hln := linesOf_len hV.good (by have := hV.len; omega) e f t
  clear hs hV hf ht hr h1 h2 hft
  go_enter Tryz.func10, Tryz.ntmps10
  go_wp2_with fail
  refine HR.out.mono ?_
  rintro en w1 ⟨rfl, hb⟩
  have HB1 := Lib.hid hb
  clear hb HR
  go_wp2_with fail
  refine (r10Lines_any J a cap e f t w1 (Sl.keep (fun k hk _ => HB1.out.block k hk) HS.out) HV.out.good (by have := HV.out.len; omega)).mono ?_
  rintro en w2 ⟨v, rfl, ho, hb⟩
  have HB2 := Lib.hid (belows_then HB1.out HB1.out.size hb)
  obtain ⟨ls, hls⟩ : ∃ ls, linesOf J e f t = ls := ⟨_, rfl⟩
  rw [hls] at ho HPB HAM hln
  obtain ⟨la, lc, rfl, _, _, hsl⟩ := ho.slice
  have HSL := Lib.hid hsl
  clear hb hls ho hsl HB1 HS HV
  have hl' : ls.length ≤ 9223372036854775807 := by omega
  go_wp2_with fail
  go_loopw [10, 12] (fun vo vi wr => ∃ (n : Nat) (vx : Value), vx = vo ∧ n ≤ ls.length ∧ vi = .int .i64 n ∧ OwnL tBal wr w.heap.size vx (refS (ls.take n)) ∧ Below w2.heap.size w2 wr) (fun _ vi _ => ls.length - (intOf vi).toNat)
  case atStart => exact ⟨0, _, rfl, Nat.zero_le _, rfl, OwnL.nil _ _, Below.refl _ _⟩
  case round =>
    obtain ⟨n, vo, rfl, hn, rfl, ho, hb⟩ := hrel
    have HO := Lib.hid ho
    have HB := Lib.hid hb
    clear ho hb
    have hrl : (refS (ls.take n)).length ≤ 8000 := by
      have := (refS_all _ (ls.take n) rfl).2.2
      rw [List.length_take] at this
      omega
    by_cases hlt : n < ls.length
    · obtain ⟨ad, rfl, _, hadl, hc0, hc1, hc2, hgx⟩ := ln_at (Sl.keep (fun k hk _ => HB.out.block k hk) HSL.out) n hlt
      have HN := Lib.hid (refS_succ ls n hlt)
      have hmx := HAM.out _ (List.getElem_mem hlt)
      have HRB : Hid (∀ x ∈ refS (ls.take n), -8000000000000000000 ≤ x.2 ∧ x.2 ≤ 8000000000000000000) := Lib.hid (refS_bd (fun x hx => HAM.out x (List.mem_of_mem_take hx)) (by rw [List.length_take]; omega))
      generalize ls[n] = x at *
      obtain ⟨oa, oc, rfl, _, _, hos⟩ := HO.out.slice
      have HKA : Hid (I64 x.acc) := Lib.hid hgx.1
      have hcell := And.intro hc0 hc1
      have HCE : Hid (∀ W, Below wr.heap.size wr W → (W.cell? (ad.add (n * 3)) = some (.int .i64 x.acc) ∧ W.cell? ⟨(ad.add (n * 3)).block, (ad.add (n * 3)).off + 1, none⟩ = some (.int .i64 x.amt))) := Lib.hid (fun W hb => by
        have hbk : W.heap[(ad.add (n * 3)).block]? = wr.heap[(ad.add (n * 3)).block]? := by rw [add_block]; exact hb.block _ hadl
        exact ⟨by rw [← hcell.1]; exact World.cell?_of_block (w := wr) hbk, by rw [← hcell.2]; exact World.cell?_of_block (w := wr) hbk⟩)
      have HPU := Lib.hid (r10Put_any (refS (ls.take n)) oa oc x.acc x.amt wr.drew (Sl.keep (w := wr) (w' := wr.drew) (fun k hk _ => rfl) hos) (by omega) HKA.out hmx.1 hmx.2 HRB.out)
      have HBD : Hid (Below wr.heap.size wr wr.drew) := Lib.hid (Below.drew (Below.refl _ _))
      clear hos hgx hmx hcell
      go_wp2_with fail
      go_region_held3 (fun w' => w'.cell? (ad.add (n * 3)) = some (.int .i64 x.acc) ∧ w'.cell? ⟨(ad.add (n * 3)).block, (ad.add (n * 3)).off + 1, none⟩ = some (.int .i64 x.amt)) (first | with_reducible exact HCE.out _ HB4.out | with_reducible exact HCE.out _ HBD.out) ((go_at_call 39; refine HPU.out.mono ?_; rintro en w4 ⟨v4, rfl, ho, hb⟩; have HB4 : Hid (Below wr.heap.size wr w4) := Lib.hid (belows_then HBD.out HBD.out.size hb); have HO4 := Lib.hid ho; clear ho hb))
      have HON : Hid (OwnL tBal w4 w.heap.size v4 (refS (ls.take (n + 1)))) := Lib.hid (by rw [HN.out]; exact HO4.out.mono (Nat.le_trans HB2.out.size HB.out.size))
      have HBN := Lib.hid (belows_then HB.out HB.out.size HB4.out)
      go_wp2_with fail
      go_roundw
      case rel => exact ⟨n + 1, _, rfl, by omega, by go_num, HON.out, HBN.out⟩
      case measure => simp [intOf]; omega
    · have hown := HO.out
      rw [take_all hn hlt] at hown hrl
      have HBW := Lib.hid (HB2.out.trans (HB.out.mono HB2.out.size))
      obtain ⟨oa, oc, rfl, _, _, hos⟩ := hown.slice
      have HPL := Lib.hid (r10Plain_any (refS ls) oa oc wr hos (by omega))
      obtain ⟨q, ok, hq⟩ : ∃ q ok, plainT (refS ls) = (q, ok) := ⟨_, _, rfl⟩
      have hpb := HPB.out
      rw [hq] at HPL hpb
      have HQ := Lib.hid hpb
      clear hown hos hq hpb HPB HO
      simp only at HPL HQ
      go_wp2_with fail
      refine HPL.out.mono ?_
      rintro en w5 ⟨v5, rfl, ho, hb⟩
      have HB5 := Lib.hid (belows_then HBW.out HBW.out.size hb)
      have HO5 := Lib.hid (ho.mono HBW.out.size)
      clear ho hb
      cases ok
      · go_wp2_with fail
        go_ret2
        unfold BalPost
        rw [HQ.out]
        have hz : q = [] := by
          have h := congrArg Prod.fst HQ.out
          have h2 := congrArg Prod.snd HQ.out
          rcases balT_cases J e f t with hc | hc | ⟨_, _, hc⟩
          · rw [hc] at h; exact h.symm
          · rw [hc] at h; exact h.symm
          · rw [hc] at h2; cases h2
        rw [hz]
        exact ⟨_, rfl, OwnL.nil _ _, HB5.out⟩
      · go_wp2_with fail
        go_ret2
        unfold BalPost
        rw [HQ.out]
        exact ⟨_, rfl, HO5.out, HB5.out⟩
end Go.Proofs.YtfnmlpnncjhnmaaGreat


/- The document's balances at every entity and periods. -/
set_option linter.unusedVariables false
set_option linter.unusedSimpArgs false
namespace Go.Proofs.YtfnmlpnncjhnmaaGreat
open Go.RowKit Go.Maps Go.Deep

theorem OwnL.isSl {P : Program} {e : TypeId} {α : Type} {T : Ty P e α} {w : World} {base : Nat} {v : Value} {xs : List α} (h : OwnL T w base v xs) : ∃ a c, v = .slice a xs.length c := by
  obtain ⟨a, c, h, _⟩ := h.slice
  exact ⟨a, c, h⟩

set_option maxHeartbeats 4000000 in
theorem r10Right_any (e f t : Int) {b : Bool} (h : rightB e f t = b) (w : World) : Calls Tryz.prog 37 #[.int .i64 e, .int .i64 f, .int .i64 t] w fun en w' => en = .returned (.bool b) ∧ Below w.heap.size w w' := by
  by_cases h1 : 1 ≤ e
  · by_cases h2 : e ≤ 9
    · cases hf : monthOk f
      · obtain rfl : b = false := by rw [← h]; unfold rightB; simp [hf]
        have HF := Lib.hid hf
        clear h hf
        go_enter Tryz.func37, Tryz.ntmps37
        go_wp2_with fail
        refine (ref_valid_is f HF.out _).mono ?_
        rintro en w1 ⟨rfl, hb⟩
        have HB := Lib.hid hb
        clear hb
        go_wp2_with fail
        go_ret
        exact ⟨rfl, HB.out⟩
      · cases ht : monthOk t
        · obtain rfl : b = false := by rw [← h]; unfold rightB; simp [ht]
          have HF := Lib.hid hf
          have HT := Lib.hid ht
          clear h hf ht
          go_enter Tryz.func37, Tryz.ntmps37
          go_wp2_with fail
          refine (ref_valid_is f HF.out _).mono ?_
          rintro en w1 ⟨rfl, hb⟩
          have HB := Lib.hid hb
          clear hb
          go_wp2_with fail
          refine (ref_valid_is t HT.out _).mono ?_
          rintro en w2 ⟨rfl, hb⟩
          have HB2 := Lib.hid (belows_then HB.out HB.out.size hb)
          clear hb
          go_wp2_with fail
          go_ret
          exact ⟨rfl, HB2.out⟩
        · have hb : decide (f ≤ t) = b := by rw [← h]; unfold rightB entB; simp [h1, h2, hf, ht]
          have HF := Lib.hid hf
          have HT := Lib.hid ht
          clear h hf ht
          cases b
          · have hlt : t < f := by simpa using hb
            clear hb
            go_enter Tryz.func37, Tryz.ntmps37
            go_wp2_with fail
            refine (ref_valid_is f HF.out _).mono ?_
            rintro en w1 ⟨rfl, hb⟩
            have HB := Lib.hid hb
            clear hb
            go_wp2_with fail
            refine (ref_valid_is t HT.out _).mono ?_
            rintro en w2 ⟨rfl, hb⟩
            have HB2 := Lib.hid (belows_then HB.out HB.out.size hb)
            clear hb
            go_wp2_with fail
            go_ret
            exact ⟨by have h : decide (f ≤ t) = false := (by simp; omega); simp [h], HB2.out⟩
          · exact r10Right_is e f t h1 h2 HF.out HT.out (by simpa using hb) w
    · have h2' : 9 < e := by omega
      obtain rfl : b = false := by rw [← h]; unfold rightB entB; simp; omega
      clear h
      go_enter Tryz.func37, Tryz.ntmps37
      go_wp2_with fail
      go_ret
      exact ⟨rfl, Below.refl _ _⟩
  · have h1' : e < 1 := by omega
    obtain rfl : b = false := by rw [← h]; unfold rightB entB; simp; omega
    clear h
    go_enter Tryz.func37, Tryz.ntmps37
    go_wp2_with fail
    go_ret
    exact ⟨rfl, Below.refl _ _⟩

set_option maxHeartbeats 4000000 in
theorem r10Balances_all (J : List Jn) (a : Option Addr) (cap : Nat) (e f t : Int) (w : World) {F : Nat → Prop} (hs : Sl tJn w F a J) (hV : ValJ J) :
    Calls Tryz.prog 10 #[.slice a J.length cap, .int .i64 e, .int .i64 f, .int .i64 t] w (BalPost w (balT J e f t)) := by
  cases hr : rightB e f t
  · have HR := Lib.hid (r10Right_any e f t hr w)
    have HBT : Hid (balT J e f t = ([], 1)) := Lib.hid (by unfold balT; simp [hr])
    clear hr hs hV
    go_enter Tryz.func10, Tryz.ntmps10
    go_wp2_with fail
    refine HR.out.mono ?_
    rintro en w1 ⟨rfl, hb⟩
    have HB1 := Lib.hid hb
    clear hb HR
    go_wp2_with fail
    go_ret2
    unfold BalPost
    rw [HBT.out]
    exact ⟨_, rfl, OwnL.nil _ _, HB1.out⟩
  · rcases right_cases hr with ⟨h, _⟩ | ⟨_, h1, h2, h3, h4⟩
    · cases h
    · have h5 : monthOk f = true ∧ monthOk t = true := by simpa using h3
      exact r10Balances_any J a cap e f t w hs hV h1 h2 h5.1 h5.2 h4
end Go.Proofs.YtfnmlpnncjhnmaaGreat


/- Charts: put, New. -/
set_option linter.unusedVariables false
set_option linter.unusedSimpArgs false
namespace Go.Proofs.YtfnmlpnncjhnmaaGreat
open Go.RowKit Go.Maps Go.Deep

theorem known_any (k : Int) (w : World) {b : Bool} (h : (decide (1 ≤ k) && decide (k ≤ 5)) = b) : Calls Tryz.prog 175 #[.int .i64 k] w fun e w' => e = .returned (.bool b) ∧ w' = w := by
  have hcs : (b = true ∧ 1 ≤ k ∧ k ≤ 5) ∨ (b = false ∧ (k < 1 ∨ 1 ≤ k ∧ 5 < k)) := by
    cases b
    · right; simp at h; exact ⟨rfl, by omega⟩
    · left; simp at h; exact ⟨rfl, h⟩
  rcases hcs with ⟨rfl, h1, h2⟩ | ⟨rfl, h1 | ⟨h1, h2⟩⟩
  all_goals
    clear h
    go_enter Tryz.func175, Tryz.ntmps175
    go_wp2
    go_ret
    refine ⟨?_, rfl⟩
    first | rfl | (simp; omega)
theorem asked_any (k : Int) (w : World) {b : Bool} (h : (decide (1 ≤ k) && decide (k ≤ 5)) = b) : Calls Tryz.prog 174 #[.func (.func 175) #[] #[], .int .i64 k] w fun e w' => e = .returned (.bool b) ∧ w' = w := by
  have HC := Lib.hid (known_any k w h)
  clear h
  go_enter Tryz.func174, Tryz.ntmps174
  go_wp2_with fail
  refine HC.out.mono ?_
  rintro e w1 ⟨rfl, rfl⟩
  go_wp2_with fail
  go_ret
  exact ⟨rfl, rfl⟩

theorem Below.onlyA {B b : Nat} {w w2 w3 : World} (h : Below B w w2) (ho : OnlyB w2 w3 b) (hb : B ≤ b) (hB : B ≤ w2.heap.size) : Below B w w3 := h.grown ho.grown hB (fun k e => by cases e; exact hb)
def PutC (w : World) (B g : Nat) (l : List Ac) (e : Ending) (w' : World) : Prop :=
  e = .returned (.int .i64 0) ∧ ∃ mb', ChartAt w' g mb' l ∧ (∀ b, mb' = some b → B ≤ b) ∧ Below B w w'

theorem codes_snoc {l : List Ac} {x : Ac} (h : findA l x.code = none) : ins (codesOf l) x.code x = codesOf (l ++ [x]) := by
  rw [ins_new _ _ _ (by rw [look_codes]; exact h)]
  unfold codesOf
  rw [List.map_append]
  rfl

set_option maxHeartbeats 4000000 in
set_option maxRecDepth 100000 in
theorem put_any {w : World} {g B : Nat} {mb : Option Nat} {l : List Ac} (h : ChartAt w g mb l) (x : Ac) (hrow : rowB x = true) (hnew : findA l x.code = none) (hk1 : I64 x.code) (hk2 : I64 x.kind) (hBg : B ≤ g) (hBm : ∀ b, mb = some b → B ≤ b) :
    Calls Tryz.prog 159 #[.pointer (some ⟨g, 0, none⟩), acv x] w (PutC w B g (l ++ [x])) := by
  have HH := Lib.hid h
  have HNEW := Lib.hid hnew
  have HK1 := Lib.hid hk1
  have HINS := Lib.hid (codes_snoc hnew)
  have HBM := Lib.hid hBm
  have hgl := blk_lt h.cell
  obtain ⟨xc, xk, xr⟩ := x
  have hrow' : 1 ≤ xc ∧ xc ≤ 9999 ∧ 1 ≤ xk ∧ xk ≤ 5 := by
    unfold rowB at hrow
    simp at hrow
    omega
  obtain ⟨r1, r2, r3, r4⟩ := hrow'
  simp only at HNEW HK1 HINS
  have HB := Lib.hid ((Below.refl w.heap.size w).alloc (Nat.le_refl _) (.cells #[.int .i64 xc, .int .i64 xk, .bool xr] 83))
  have HZ := Lib.hid (blk_new w (.cells #[.int .i64 xc, .int .i64 xk, .bool xr] 83))
  clear h hnew hk1 hk2 hrow hBm
  go_enter Tryz.func159, Tryz.ntmps159
  go_wp2_with fail
  refine (asked_any xk _ (b := true) (by simp; omega)).mono ?_
  rintro e w1 ⟨rfl, rfl⟩
  go_wp2_with fail
  refine abs_world (S := fun wx => wx.heap[w.heap.size]? = some (.cells #[.int .i64 xc, .int .i64 xk, .bool xr] 83 (0, 0)) ∧ Below w.heap.size w wx) ?_ ⟨HZ.out, HB.out⟩
  rintro wx ⟨hzx, hbx⟩
  have HZX := Lib.hid hzx
  have HBX := Lib.hid hbx
  have HCX := Lib.hid (HH.out.below hbx)
  have hzc := blk_cells hzx
  have hgc := blk_cells HCX.out.cell
  have hgf := blk_frz HCX.out.cell
  have hzl := blk_lt hzx
  have hgx := blk_lt HCX.out.cell
  have hne : w.heap.size ≠ g := by omega
  have hl1 := lookA HCX.out HK1.out wx.drew (fun b _ => rfl)
  have hl2 := lookA HCX.out HK1.out (wx.drew.alloc (.cells #[.int .i64 0, .int .i64 0, .bool false] 83)) (fun b hb => Below.heap_alloc wx.drew _ b hb)
  have hl3 := lookA HCX.out HK1.out (wx.alloc (.cells #[.int .i64 0, .int .i64 0, .bool false] 83)).drew (fun b hb => Below.heap_alloc wx _ b hb)
  have hd : acD l xc = ac0 := by unfold acD; rw [HNEW.out]; rfl
  rw [HNEW.out, hd] at hl1 hl2 hl3
  simp only [Option.isSome_none] at hl1 hl2 hl3
  clear hzx hbx HB HZ hd
  go_region_law (fail)
  all_goals
    have hnil := fun W m => run_eql_map_nil (P := Tryz.prog) W 216 _ _ m Tryz.underlying216
    have hmm := @run_makeMap Tryz.prog
    have HBW := Lib.hid (HBX.out.mono (Nat.le_trans hBg (Nat.le_of_lt hgl)))
    cases mb with
    | none =>
      go_wp2_with fail
      refine abs_world (S := (fun wz => ∃ b', wz.heap[g]? = some (.cells #[.map (some b')] 218 (0, 0)) ∧ MapIs mInt acv wz b' (codesOf l) ∧ b' ≠ g ∧ B ≤ b' ∧ wz.heap[w.heap.size]? = some (.cells #[.int .i64 xc, .int .i64 xk, .bool xr] 83 (0, 0)) ∧ Below B w wz)) ?_ ⟨wx.heap.size + 1, blk_alloc (blk_alloc (blk_set HCX.out.cell 0 _) _) _, by rw [HCX.out.none rfl]; have h9 : MapIs mInt acv (((wx.setCell { block := g, off := 0 } (Value.map (some (wx.heap.size + 1)))).alloc (.cells #[.int .i64 ac0.code, .int .i64 ac0.kind, .bool ac0.ret] 83)).alloc (.map #[] 0)) (wx.heap.size + 1) (codesOf []) := (by have := MapIs.new mInt acv ((wx.setCell { block := g, off := 0 } (Value.map (some (wx.heap.size + 1)))).alloc (.cells #[.int .i64 ac0.code, .int .i64 ac0.kind, .bool ac0.ret] 83)); simpa [codesOf] using this); exact h9.keep rfl, by omega, by omega, blk_alloc (blk_alloc (blk_far HZX.out (p := ⟨g, 0, none⟩) hne _) _) _, (((HBW.out.setCell hBg _).alloc (by simp; omega) _).alloc (by simp; omega) _).drew⟩
      rintro wz ⟨b', hzg, hzm, hzb, hzB, hza, hzB2⟩
      have HZG := Lib.hid hzg
      have HZM := Lib.hid hzm
      have HZB := Lib.hid hzB2
      have HZA := Lib.hid hza
      clear hzc hgc hgf hl1 hl2 hl3
      have hzc := blk_cells hza
      have hgc := blk_cells hzg
      clear hzg hzm hza hzB2 hnil hmm
      refine still_tail 7 (by kernel_rfl) (by kernel_rfl) ?_
      simp only [List.take_succ_cons, List.take_zero, List.drop_succ_cons, List.drop_zero]
      repeat still_step
      try refine wpStill_nil ?_
      change wpList _ _ _ _ _ _
      refine wp_update (M := mInt) (ev := acv) rfl _ _ _ 216 rfl _ Tryz.underlying216 b' (codesOf l) xc ⟨xc, xk, xr⟩ rfl rfl rfl (HZM.out.keep rfl) HK1.out ?_
      intro w2 hm2 ho2
      have HF : Hid (PutC w B g (l ++ [⟨xc, xk, xr⟩]) (.returned (.int .i64 0)) w2) := Lib.hid ⟨rfl, some b', ⟨(ho2.heap (k := g) (Ne.symm hzb)).trans HZG.out, (fun e => by cases e), (fun b e => by injection e with e; subst e; rw [← HINS.out]; exact ⟨hm2, hzb⟩)⟩, (fun b e => by injection e with e; subst e; exact hzB), Below.onlyA (Below.drew HZB.out) ho2 hzB (Nat.le_trans hzB (Nat.le_of_lt HZM.out.lt))⟩
      clear hm2 ho2
      go_wp2_with fail
      go_ret
      exact HF.out
    | some b =>
      go_wp2_with fail
      refine abs_world (S := (fun wz => ∃ b', wz.heap[g]? = some (.cells #[.map (some b')] 218 (0, 0)) ∧ MapIs mInt acv wz b' (codesOf l) ∧ b' ≠ g ∧ B ≤ b' ∧ wz.heap[w.heap.size]? = some (.cells #[.int .i64 xc, .int .i64 xk, .bool xr] 83 (0, 0)) ∧ Below B w wz)) ?_ ⟨b, blk_alloc HCX.out.cell _, (HCX.out.some b rfl).1.keep (Below.heap_alloc wx _ b (HCX.out.some b rfl).1.lt), (HCX.out.some b rfl).2, HBM.out b rfl, blk_alloc HZX.out _, (HBW.out.alloc (by omega) _).drew⟩
      rintro wz ⟨b', hzg, hzm, hzb, hzB, hza, hzB2⟩
      have HZG := Lib.hid hzg
      have HZM := Lib.hid hzm
      have HZB := Lib.hid hzB2
      have HZA := Lib.hid hza
      clear hzc hgc hgf hl1 hl2 hl3
      have hzc := blk_cells hza
      have hgc := blk_cells hzg
      clear hzg hzm hza hzB2 hnil hmm
      refine still_tail 7 (by kernel_rfl) (by kernel_rfl) ?_
      simp only [List.take_succ_cons, List.take_zero, List.drop_succ_cons, List.drop_zero]
      repeat still_step
      try refine wpStill_nil ?_
      change wpList _ _ _ _ _ _
      refine wp_update (M := mInt) (ev := acv) rfl _ _ _ 216 rfl _ Tryz.underlying216 b' (codesOf l) xc ⟨xc, xk, xr⟩ rfl rfl rfl (HZM.out.keep rfl) HK1.out ?_
      intro w2 hm2 ho2
      have HF : Hid (PutC w B g (l ++ [⟨xc, xk, xr⟩]) (.returned (.int .i64 0)) w2) := Lib.hid ⟨rfl, some b', ⟨(ho2.heap (k := g) (Ne.symm hzb)).trans HZG.out, (fun e => by cases e), (fun b e => by injection e with e; subst e; rw [← HINS.out]; exact ⟨hm2, hzb⟩)⟩, (fun b e => by injection e with e; subst e; exact hzB), Below.onlyA (Below.drew HZB.out) ho2 hzB (Nat.le_trans hzB (Nat.le_of_lt HZM.out.lt))⟩
      clear hm2 ho2
      go_wp2_with fail
      go_ret
      exact HF.out
end Go.Proofs.YtfnmlpnncjhnmaaGreat


/- append at a step of a region, where the list behind may be nil. -/
set_option linter.unusedVariables false
set_option linter.unusedSimpArgs false
namespace Go.Proofs.YtfnmlpnncjhnmaaGreat
open Go.RowKit Go.Maps
section
variable {P : Program} {e : TypeId} {α : Type} {T : Ty P e α} {ops : Array Oper} {o : Oper} {a : Act} {w : World} {K : Act → World → Prop} {Q : Exit → Act → World → Prop} {E : Prop}
theorem step_appA (hgd : o.guard = none) (s x : Operand) (t : TypeId) (ho : o.op = .call { callee := .builtin .append, args := #[s, x], argTypes := #[t, t] })
    (i : TypeInfo) (z : Value) (bytes : Nat) (ht : P.underlying t = some (.slice e)) (hi : P.info? e = some i) (hz : i.zero = some z) (hsize : i.size = T.n) (hby : i.bytes = bytes) (hzs : z.cells.size = T.n) (hsz : 0 < T.n)
    (h1c : ∀ (w : World) (F : Nat → Prop) (c : List Value) (x : α), T.R w F c x → ∀ u ∈ c, u.oneCell' = true)
    (base : Nat) (v : Value) (xs : List α) (hs : a.eval s = v) (hown : OwnL T w base v xs) (ad : Option Addr) (c : Nat) (ys : List α) (hx : a.eval x = .slice ad ys.length c) (hnil : ad = none → ys = [] ∧ c = 0)
    (hys : Sl T w (fun k => some k ≠ v.ownBlock ∧ k < w.heap.size) ad ys) (h63 : xs.length + ys.length ≤ maxLen) (hbytes : (xs.length + ys.length) * bytes ≤ 140737488355328) (hbase : base ≤ w.heap.size)
    (h : ∀ v' w', OwnL T w' base v' (xs ++ ys) → w.grownBy w' v.ownBlock → (v'.ownBlock = v.ownBlock ∨ v'.ownBlock = some w.heap.size) → K (a.put o.dst v') w') :
    if Region.wanted o (yielded ops a.tmps) = true then Oper.wp P o a w K Q else E := by
  cases ad with
  | some ad => exact step_app hgd s x t ho i z bytes ht hi hz hsize hby hzs hsz h1c base v xs hs hown ad c ys hx hys h63 hbytes hbase h
  | none =>
    obtain ⟨rfl, rfl⟩ := hnil rfl
    obtain ⟨css, hr, h2⟩ := hown
    have hw : Region.wanted o (yielded ops a.tmps) = true := by simp [Region.wanted, hgd]
    rw [if_pos hw]
    have hrun := run_append_owned_none (P := P) (w := w) base t o.type e i T.n ht hi v xs.length css.flatten hr
    unfold Oper.wp
    have hx' : a.eval x = .slice none 0 0 := hx
    simp [execOp, ho, resolve, invoke, builtin, hs, hx', hrun, Result.andThen]
    exact h v w (by rw [List.append_nil]; exact ⟨css, hr, h2⟩) ⟨rfl, rfl, rfl, Nat.le_refl _, fun _ _ _ => rfl⟩ (.inl rfl)
end
end Go.Proofs.YtfnmlpnncjhnmaaGreat
