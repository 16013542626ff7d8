/- The document's gates: State, May, SetGate. -/
import Derived.Test.YtacemlbfifhllaaGreatX13GatesPlay
import Derived.Test.YtacemlbfifhllaaGreatX14GatesPlay
import Derived.Test.YtacemlbfifhllaaGreatX23GatesPlay
set_option linter.unusedVariables false
set_option linter.unusedSimpArgs false
namespace Go.Proofs.YtacemlbfifhllaaGreat
open Go.RowKit Go.Maps Go.Deep

def fGate : Flds Tryz.prog [fld "Entity" 3 0 0, fld "Period" 3 1 8, fld "State" 3 2 16] 0 (Int × Int × Int × Unit) :=
  Flds.cons (f := fld "Entity" 3 0 0) tInt rfl (Flds.cons (f := fld "Period" 3 1 8) tInt rfl (Flds.cons (f := fld "State" 3 2 16) tInt rfl (Flds.nil _ _)))
def tGate : Ty Tryz.prog 50 (Int × Int × Int) := (Ty.struct Tryz.underlying50 fGate (by kernel_rfl)).map (fun x => (x.1, x.2.1, x.2.2.1))
theorem gate_mk {w : World} {F : Nat → Prop} (x : Int × Int × Int) (h1 : I64 x.1) (h2 : I64 x.2.1) (h3 : I64 x.2.2) : tGate.R w F (triV x) x :=
  ⟨(x.1, x.2.1, x.2.2, ()), rfl, [_], [_, _], rfl, ⟨rfl, h1⟩, [_], [_], rfl, ⟨rfl, h2⟩, [_], [], rfl, ⟨rfl, h3⟩, rfl⟩
theorem gate_inv {w : World} {F : Nat → Prop} {cs : List Value} {x : Int × Int × Int} (h : tGate.R w F cs x) : cs = triV x ∧ I64 x.1 ∧ I64 x.2.1 ∧ I64 x.2.2 := by
  obtain ⟨y, rfl, c1, c2, rfl, ⟨rfl, h1⟩, c3, c4, rfl, ⟨rfl, h2⟩, c5, c6, rfl, ⟨rfl, h3⟩, rfl⟩ := h
  exact ⟨rfl, h1, h2, h3⟩
theorem gate_free (w : World) (F G : Nat → Prop) (c : List Value) (x : Int × Int × Int) (h : tGate.R w F c x) : tGate.R w G c x := by
  obtain ⟨rfl, h1, h2, h3⟩ := gate_inv h
  exact gate_mk x h1 h2 h3
theorem gate_one (w : World) (F : Nat → Prop) (c : List Value) (x : Int × Int × Int) (h : tGate.R w F c x) : ∀ u ∈ c, u.oneCell' = true := by
  obtain ⟨rfl, _⟩ := gate_inv h
  simp [triV, Value.oneCell']
theorem infoGate : (Tryz.prog.info? 50).map (fun i => (i.zero, i.size, i.bytes)) = some (some (.agg #[.int .i64 0, .int .i64 0, .int .i64 0]), 3, 24) := by kernel_rfl
theorem gate_at {w : World} {F : Nat → Prop} {a : Option Addr} {l : List (Int × Int × Int)} (h : Sl tGate w F a l) (i : Nat) (hi : i < l.length) :
    ∃ ad, a = some ad ∧ F ad.block ∧ ad.block < w.heap.size ∧ w.cell? (ad.add (i * 3)) = some (.int .i64 l[i].1) ∧ w.cell? ⟨(ad.add (i * 3)).block, (ad.add (i * 3)).off + 1, none⟩ = some (.int .i64 l[i].2.1) ∧ w.cell? ⟨(ad.add (i * 3)).block, (ad.add (i * 3)).off + 2, none⟩ = some (.int .i64 l[i].2.2) ∧ I64 l[i].1 ∧ I64 l[i].2.1 ∧ I64 l[i].2.2 := by
  obtain ⟨ad, ces, rfl, hf, hlt, hc, hr⟩ := h i l[i] (List.getElem?_eq_getElem hi)
  obtain ⟨rfl, h1, h2, h3⟩ := gate_inv hr
  rw [show tGate.n = 3 from rfl] at hc
  refine ⟨ad, rfl, hf, hlt, ?_, ?_, ?_, h1, h2, h3⟩
  · have := hc 0 _ rfl
    simpa [Addr.add] using this
  · have := hc 1 _ rfl
    rw [Addr.add] at this
    simpa using this
  · have := hc 2 _ rfl
    rw [Addr.add] at this
    simpa using this
theorem sl_oneG {w : World} {F : Nat → Prop} {b : Nat} {x : Int × Int × Int} (hb : w.heap[b]? = some (.cells #[.int .i64 x.1, .int .i64 x.2.1, .int .i64 x.2.2] 50 (0, 0))) (hF : F b) (hr : tGate.R w F (triV x) x) :
    Sl tGate w F (some ⟨b, 0, none⟩) [x] := by
  intro i y hi
  cases i with
  | succ i => simp at hi
  | zero =>
    simp at hi
    subst hi
    refine ⟨_, triV x, rfl, hF, (Array.getElem?_eq_some_iff.1 hb).1, fun k u hu => ?_, hr⟩
    rw [Nat.zero_mul, Go.Addr.add_add, Nat.zero_add]
    have : (⟨b, 0, none⟩ : Addr).add k = ⟨b, k, none⟩ := by unfold Addr.add; split <;> simp_all
    rw [this, cell_of_row w b k _ 50 (0, 0) hb]
    simpa [triV] using hu

theorem place_cases (e p : Int) : (e < 1 ∧ placeOk e p = false) ∨ (1 ≤ e ∧ 9 < e ∧ placeOk e p = false) ∨ (1 ≤ e ∧ e ≤ 9 ∧ placeOk e p = monthOk p) := by
  unfold placeOk
  rcases (show e < 1 ∨ (1 ≤ e ∧ 9 < e) ∨ (1 ≤ e ∧ e ≤ 9) by omega) with h | ⟨h, h2⟩ | ⟨h, h2⟩
  · exact .inl ⟨h, by simp; omega⟩
  · exact .inr (.inl ⟨h, h2, by simp; omega⟩)
  · exact .inr (.inr ⟨h, h2, by simp [h, h2]⟩)
theorem find_hit {R : List Gt} {n : Nat} (hn : n < R.length) {q : Gt → Bool} (h0 : (R.take n).find? q = none) (h1 : q R[n] = true) : R.find? q = some R[n] := by
  have e : R.take n ++ R[n] :: R.drop (n + 1) = R := by rw [← List.drop_eq_getElem_cons hn, List.take_append_drop]
  have h2 : (R.take n ++ R[n] :: R.drop (n + 1)).find? q = some R[n] := by
    rw [List.find?_append, h0, List.find?_cons_of_pos h1]
    rfl
  rw [e] at h2
  exact h2
theorem find_miss {R : List Gt} {n : Nat} (hn : n < R.length) {q : Gt → Bool} (h0 : (R.take n).find? q = none) (h1 : q R[n] = false) : (R.take (n + 1)).find? q = none := by
  rw [List.take_succ_eq_append_getElem hn, List.find?_append, h0]
  simp [h1]

set_option maxHeartbeats 4000000 in
set_option maxRecDepth 100000 in
theorem rState_any (R : List Gt) (ra : Option Addr) (rc : Nat) (w : World) {F : Nat → Prop} (hs : Sl tGate w F ra R) (hl : R.length ≤ 100000) (e p : Int) :
    Calls Tryz.prog 11 #[.slice ra R.length rc, .int .i64 e, .int .i64 p] w fun en w' => en = .returned (.int .i64 (refSt R e p)) ∧ Below w.heap.size w w' := by
  have HS := Lib.hid hs
  have hl' : R.length ≤ 9223372036854775807 := by omega
  clear hs
  rcases place_cases e p with ⟨h1, h2⟩ | ⟨h1, h2, h3⟩ | ⟨h1, h2, h3⟩
  · have HR : Hid (refSt R e p = 2) := Lib.hid (by simp [refSt, h2])
    clear h2
    go_enter Tryz.func11, Tryz.ntmps11
    go_wp2_with fail
    go_ret
    rw [HR.out]
    exact ⟨rfl, Below.refl _ _⟩
  · have HR : Hid (refSt R e p = 2) := Lib.hid (by simp [refSt, h3])
    clear h3
    go_enter Tryz.func11, Tryz.ntmps11
    go_wp2_with fail
    go_ret
    rw [HR.out]
    exact ⟨rfl, Below.refl _ _⟩
  · have H3 := Lib.hid h3
    clear h3
    go_enter Tryz.func11, Tryz.ntmps11
    go_wp2_with fail
    refine (ref_valid p w).mono ?_
    rintro en w1 ⟨rfl, hb⟩
    have HB1 := Lib.hid hb
    clear hb
    cases hm : monthOk p
    · have HR : Hid (refSt R e p = 2) := Lib.hid (by simp [refSt, H3.out, hm])
      clear hm
      go_wp2_with fail
      go_ret
      rw [HR.out]
      exact ⟨rfl, HB1.out⟩
    · have HR : Hid (refSt R e p = ((R.find? (fun x => x.1 == e && x.2.1 == p)).map (·.2.2)).getD 0) := Lib.hid (by simp [refSt, H3.out, hm])
      have HS1 := Lib.hid (Sl.keep (fun k hk _ => HB1.out.block k hk) HS.out)
      clear hm HS H3
      go_wp2_with fail
      go_loopw [7] (fun vi wr => ∃ n : Nat, n ≤ R.length ∧ vi = .int .i64 n ∧ Hid ((R.take n).find? (fun x => x.1 == e && x.2.1 == p) = none) ∧ Below w1.heap.size w1 wr) (fun vi _ => R.length - (Go.RowKit.intOf vi).toNat)
      case atStart => exact ⟨0, Nat.zero_le _, rfl, Lib.hid rfl, Below.refl _ _⟩
      case round =>
        obtain ⟨n, hn, rfl, hno, hb⟩ := hrel
        have HB := Lib.hid hb
        clear hb
        by_cases hlt : n < R.length
        · obtain ⟨ad, rfl, _, hadl, hc0, hc1, hc2, _⟩ := gate_at (Sl.keep (fun k hk _ => HB.out.block k hk) HS1.out) n hlt
          have HHIT := Lib.hid (fun h => find_hit hlt hno.out h)
          have HMISS := Lib.hid (fun h => find_miss hlt hno.out h)
          obtain ⟨⟨x1, x2, x3⟩, hx⟩ : ∃ x, R[n] = x := ⟨_, rfl⟩
          rw [hx] at hc0 hc1 hc2 HHIT HMISS
          simp only at hc0 hc1 hc2
          clear hx
          by_cases h4 : x1 = e
          · have h4' : (x1 == e) = true := by simpa using h4
            by_cases h5 : x2 = p
            · have h5' : (x2 == p) = true := by simpa using h5
              have HF : Hid (refSt R e p = x3) := Lib.hid (by rw [HR.out, HHIT.out (by simp [h4, h5])]; rfl)
              clear h4 h5 HHIT HMISS
              go_wp2_with fail
              go_ret
              rw [HF.out]
              exact ⟨rfl, HB1.out.trans (HB.out.mono HB1.out.size)⟩
            · have h5' : (x2 == p) = false := by simpa using h5
              have HN := Lib.hid (HMISS.out (by simp [h4', h5']))
              clear h4 h5 HHIT HMISS
              go_wp2_with fail
              go_roundw
              case rel => exact ⟨n + 1, by omega, by go_num, HN, HB.out⟩
              case measure => simp [Go.RowKit.intOf]; omega
          · have h4' : (x1 == e) = false := by simpa using h4
            have HN := Lib.hid (HMISS.out (by simp [h4']))
            clear h4 HHIT HMISS
            go_wp2_with fail
            go_roundw
            case rel => exact ⟨n + 1, by omega, by go_num, HN, HB.out⟩
            case measure => simp [Go.RowKit.intOf]; omega
        · have HF : Hid (refSt R e p = 0) := Lib.hid (by have := hno.out; rw [List.take_of_length_le (by omega)] at this; rw [HR.out, this]; rfl)
          go_wp2_with fail
          go_ret
          rw [HF.out]
          exact ⟨rfl, HB1.out.trans (HB.out.mono HB1.out.size)⟩
theorem rState_is (R : List Gt) (ra : Option Addr) (rc : Nat) (w : World) {F : Nat → Prop} (hs : Sl tGate w F ra R) (hl : R.length ≤ 100000) (e p : Int) {q : Int} (hq : refSt R e p = q) :
    Calls Tryz.prog 11 #[.slice ra R.length rc, .int .i64 e, .int .i64 p] w fun en w' => en = .returned (.int .i64 q) ∧ Below w.heap.size w w' := by
  rw [← hq]
  exact rState_any R ra rc w hs hl e p

set_option maxHeartbeats 4000000 in
set_option maxRecDepth 100000 in
theorem rMay_any (R : List Gt) (ra : Option Addr) (rc : Nat) (w : World) {F : Nat → Prop} (hs : Sl tGate w F ra R) (hl : R.length ≤ 100000) (e p : Int) :
    Calls Tryz.prog 13 #[.slice ra R.length rc, .int .i64 e, .int .i64 p] w fun en w' => en = .returned (.int .i64 (refMy R e p)) ∧ Below w.heap.size w w' := by
  have HS := Lib.hid hs
  clear hs
  rcases place_cases e p with ⟨h1, h2⟩ | ⟨h1, h2, h3⟩ | ⟨h1, h2, h3⟩
  · have HR : Hid (refMy R e p = 1) := Lib.hid (by simp [refMy, h2])
    clear h2
    go_enter Tryz.func13, Tryz.ntmps13
    go_wp2_with fail
    go_ret
    rw [HR.out]
    exact ⟨rfl, Below.refl _ _⟩
  · have HR : Hid (refMy R e p = 1) := Lib.hid (by simp [refMy, h3])
    clear h3
    go_enter Tryz.func13, Tryz.ntmps13
    go_wp2_with fail
    go_ret
    rw [HR.out]
    exact ⟨rfl, Below.refl _ _⟩
  · have H3 := Lib.hid h3
    clear h3
    go_enter Tryz.func13, Tryz.ntmps13
    go_wp2_with fail
    refine (ref_valid p w).mono ?_
    rintro en w1 ⟨rfl, hb⟩
    have HB1 := Lib.hid hb
    clear hb
    cases hm : monthOk p
    · have HR : Hid (refMy R e p = 1) := Lib.hid (by simp [refMy, H3.out, hm])
      clear hm
      go_wp2_with fail
      go_ret
      rw [HR.out]
      exact ⟨rfl, HB1.out⟩
    · obtain ⟨q, hq⟩ : ∃ q, refSt R e p = q := ⟨_, rfl⟩
      have HR : Hid (refMy R e p = if q != 0 then 6 else 0) := Lib.hid (by simp [refMy, H3.out, hm, hq])
      have HC := Lib.hid (rState_is R ra rc w1 (Sl.keep (fun k hk _ => HB1.out.block k hk) HS.out) hl e p hq)
      clear hm HS H3 hq
      go_wp2_with fail
      refine HC.out.mono ?_
      rintro en w2 ⟨rfl, hb⟩
      have HB2 := Lib.hid (belows_then HB1.out HB1.out.size hb)
      clear hb HC
      cases hq0 : (q != 0)
      · have HF : Hid (refMy R e p = 0) := Lib.hid (by rw [HR.out, hq0]; rfl)
        go_wp2_with fail
        go_ret
        rw [HF.out]
        exact ⟨rfl, HB2.out⟩
      · have HF : Hid (refMy R e p = 6) := Lib.hid (by rw [HR.out, hq0]; rfl)
        go_wp2_with fail
        go_ret
        rw [HF.out]
        exact ⟨rfl, HB2.out⟩
end Go.Proofs.YtacemlbfifhllaaGreat
