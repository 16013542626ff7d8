/- law 16, alive: two copies of a journal, in whatever order. -/
import Derived.Test.YtogikjnfmcfbmaaX33MergeApart
import Derived.Test.YtogikjnfmcfbmaaX34MergeApart
set_option linter.unusedVariables false
set_option linter.unusedSimpArgs false
namespace Go.Proofs.Ytogikjnfmcfbmaa
open Go.RowKit Go.Maps

structure TwoI (B : Nat) (w0 : World) (jv : Value) (j : Jn) (d : Nat → Bool) (w : World) (x2 x3 x15 x16 x17 x18 : Value) : Prop where
  bel : Below B w0 w
  l15 : d 0 = true → x15 = jv
  c16 : d 1 = true → CR B w x2 x3 undef x16 j
  l17 : d 2 = true → x17 = jv
  c18 : d 3 = true → CR B w x2 x3 undef x18 j
  u2 : d 4 = false → x2 = undef
  a2 : d 4 = true → PZ B w x2
  u3 : d 5 = false → x3 = undef
  a3 : d 5 = true → PZ B w x3
  n23 : d 4 = true → x2 ≠ x3
  q6 : d 6 = true → d 4 = true ∧ d 5 = true
  q7 : d 7 = true → d 6 = true
  s2 : d 6 = true → SJ B w x2 x3 undef x2 j
  s3 : d 7 = true → SJ B w x2 x3 undef x3 j
section
variable {B : Nat} {w0 w w' : World} {jv : Value} {j : Jn} {d : Nat → Bool} {x2 x3 x15 x16 x17 x18 : Value}
theorem TwoI.grow (H : TwoI B w0 jv j d w x2 x3 x15 x16 x17 x18) (hb : Below w.heap.size w w') (hB : B ≤ w.heap.size) : TwoI B w0 jv j d w' x2 x3 x15 x16 x17 x18 :=
  ⟨H.bel.trans (hb.mono hB), H.l15, fun h => (H.c16 h).below hb, H.l17, fun h => (H.c18 h).below hb, H.u2, fun h => (H.a2 h).below hb, H.u3, fun h => (H.a3 h).below hb, H.n23, H.q6, H.q7, fun h => (H.s2 h).below hb, fun h => (H.s3 h).below hb⟩
theorem TwoI.far (H : TwoI B w0 jv j d w x2 x3 x15 x16 x17 x18) {k : Nat} (hk : w.heap.size ≤ k) (hB : B ≤ k) : farF B x2 x3 undef k := by
  refine ⟨hB, ?_, ?_, by simp [undef]⟩
  · cases h : d 4 with
    | true => exact (H.a2 h).far hk
    | false => rw [H.u2 h]; simp [undef]
  · cases h : d 5 with
    | true => exact (H.a3 h).far hk
    | false => rw [H.u3 h]; simp [undef]
end
def TwoS (B : Nat) (w0 : World) (p1 y11 y12 y13 y14 jv : Value) (j : Jn) (d : Nat → Bool) (a : Act) (w : World) : Prop :=
  ∃ x2 x3 x15 x16 x17 x18, a = { tmps := #[.bool false, p1, x2, x3, undef, undef, undef, undef, undef, undef, undef, y11, y12, y13, y14, x15, x16, x17, x18, undef, undef, undef, undef, undef, undef, undef, undef, undef, undef, undef, undef, undef, undef, undef, undef, undef, undef, undef, undef, undef, undef, undef, undef, undef, undef, undef, undef, undef, undef, undef, undef, undef, undef, undef, undef, undef, undef, undef, undef, undef, undef, undef, undef, undef, undef, undef, undef, undef, undef, undef, undef, undef, undef, undef, undef, undef, undef, undef, undef, undef, undef, undef, undef, undef, undef], defers := [] } ∧ TwoI B w0 jv j d w x2 x3 x15 x16 x17 x18
theorem TwoS.congr {B : Nat} {w0 w : World} {p1 y11 y12 y13 y14 jv : Value} {j : Jn} {d d' : Nat → Bool} {a : Act} (h : ∀ i, i < 8 → d i = d' i) (H : TwoS B w0 p1 y11 y12 y13 y14 jv j d a w) : TwoS B w0 p1 y11 y12 y13 y14 jv j d' a w := by
  obtain ⟨x2, x3, x15, x16, x17, x18, ha, H⟩ := H
  refine ⟨x2, x3, x15, x16, x17, x18, ha, ?_⟩
  obtain ⟨h1, h2, h3, h4, h5, h6, h7, h8, h9, h10, h11, h12, h13, h14⟩ := H
  rw [h 0 (by omega)] at h2
  rw [h 1 (by omega)] at h3
  rw [h 2 (by omega)] at h4
  rw [h 3 (by omega)] at h5
  rw [h 4 (by omega)] at h6 h7 h10 h11
  rw [h 5 (by omega)] at h8 h9 h11
  rw [h 6 (by omega)] at h11 h12 h13
  rw [h 7 (by omega)] at h12 h14
  exact ⟨h1, h2, h3, h4, h5, h6, h7, h8, h9, h10, h11, h12, h13, h14⟩

theorem sl_lns2 {w : World} {F : Nat → Prop} {b : Nat} (x y : Ln) (hb : w.heap[b]? = some (.cells #[.int .i64 x.acc, .int .i64 x.amt, .int .i64 x.par, .int .i64 y.acc, .int .i64 y.amt, .int .i64 y.par] 61 (0, 0))) (hF : F b)
    (hx : I64 x.acc ∧ I64 x.amt ∧ I64 x.par) (hy : I64 y.acc ∧ I64 y.amt ∧ I64 y.par) : Sl tLn w F (some ⟨b, 0, none⟩) [x, y] := by
  have hlt : b < w.heap.size := (Array.getElem?_eq_some_iff.1 hb).1
  have hcell := fun o => cell_of_row w b o _ 61 (0, 0) hb
  intro i u hi
  match i, hi with
  | 0, hi =>
    simp at hi; subst hi
    refine ⟨_, [.int .i64 x.acc, .int .i64 x.amt, .int .i64 x.par], rfl, hF, hlt, fun j v hv => ?_, ln_mk x hx.1 hx.2.1 hx.2.2⟩
    match j, hv with
    | 0, hv => simp at hv; subst hv; exact hcell 0
    | 1, hv => simp at hv; subst hv; exact hcell 1
    | 2, hv => simp at hv; subst hv; exact hcell 2
  | 1, hi =>
    simp at hi; subst hi
    refine ⟨_, [.int .i64 y.acc, .int .i64 y.amt, .int .i64 y.par], rfl, hF, hlt, fun j v hv => ?_, ln_mk y hy.1 hy.2.1 hy.2.2⟩
    match j, hv with
    | 0, hv => simp at hv; subst hv; exact hcell 3
    | 1, hv => simp at hv; subst hv; exact hcell 4
    | 2, hv => simp at hv; subst hv; exact hcell 5

def j16 : Jn := ⟨1, 1, 3, ⟨#[]⟩, [⟨1, 5, 0⟩, ⟨2, -5, 0⟩], false⟩
def k16 : Jn := ⟨1, 1, 4, ⟨#[]⟩, [⟨1, 5, 0⟩, ⟨2, -5, 0⟩], false⟩
def v16 : Jn := ⟨1, 1, 3, ⟨#[]⟩, [⟨1, 5, 0⟩, ⟨2, -5, 0⟩], true⟩
theorem val_one {x : Jn} (h : chk x = 0) : ValJ [x] := ⟨by simp, by intro y hy; simp at hy; subst hy; exact h, by
  intro y hy
  simp at hy
  subst hy
  unfold takenJ
  cases hf : [y].any (clash y) with
  | false => simp
  | true =>
    simp only [List.any_cons, List.any_nil, Bool.or_false] at hf
    unfold clash at hf
    simp at hf, by simp⟩
theorem val16 : ValJ [j16] := val_one (by decide +kernel)
theorem valK : ValJ [k16] := val_one (by decide +kernel)
theorem valV : ValJ [v16] := val_one (by decide +kernel)
theorem ids16 : idsJ [j16] [k16] [v16] = [1] ∧ idsJ [j16] [j16] [v16] = [1] := by
  unfold idsJ
  have h1 : (cntS (([j16] ++ [k16]) ++ [v16])).map (·.1) = [1] := by decide +kernel
  have h2 : (cntS (([j16] ++ [j16]) ++ [v16])).map (·.1) = [1] := by decide +kernel
  rw [h1, h2, srt_self (by simp)]
  exact ⟨rfl, rfl⟩
theorem tab16 : tabJ [j16] [k16] [v16] = [] ∧ tabC [j16] [k16] [v16] = [(2, 1)] ∧ tabJ [j16] [j16] [v16] = [v16] ∧ tabC [j16] [j16] [v16] = [] := by
  unfold tabJ tabC
  rw [ids16.1, ids16.2]
  exact ⟨by kernel_rfl, by kernel_rfl, by kernel_rfl, by kernel_rfl⟩
theorem cf_at {w : World} {F : Nat → Prop} {a : Option Addr} {l : List (Int × Int)} (h : Sl tCf w F a l) (i : Nat) (hi : i < l.length) :
    ∃ ad, a = some ad ∧ ad.block < w.heap.size ∧ w.cell? (ad.add (i * 2)) = some (.int .i64 l[i].1) ∧ w.cell? ⟨(ad.add (i * 2)).block, (ad.add (i * 2)).off + 1, none⟩ = some (.int .i64 l[i].2) := by
  obtain ⟨ad, ces, rfl, hf, hlt, hc, hr⟩ := h i l[i] (List.getElem?_eq_getElem hi)
  obtain ⟨rfl, h1, h2⟩ := cf_inv hr
  rw [show tCf.n = 2 from rfl] at hc
  refine ⟨ad, rfl, hlt, ?_, ?_⟩
  · have := hc 0 _ rfl
    simpa [Addr.add] using this
  · have := hc 1 _ rfl
    rw [Addr.add] at this
    simpa using this
theorem of_val {l : List Jn} (hv : ValJ l) (a : Option Addr) (cap : Nat) (w : World) {F : Nat → Prop} (hs : Sl tJn w F a l) :
    Calls Try.prog 13 #[.slice a l.length cap] w fun e w' => ∃ g, e = .returned (.pointer (some ⟨g, 0, none⟩)) ∧ Bk w' g l ∧ Below w.heap.size w w' := by
  refine (lof_yes l a cap w hs (by have := hv.len; omega) hv.incJ hv.of).mono ?_
  rintro e w' ⟨g, ga, gc, rfl, _, hat, hb⟩
  exact ⟨g, rfl, ⟨⟨ga, gc, _, hat⟩, hv.len, hv.ordJ, fun x hx => (hv.good x hx).1⟩, hb⟩

def SLB (w : World) (x : Value) (j : Jn) (a : Option Addr) (c : Nat) : Prop := ∃ b, x = .slice (some ⟨b, 0, none⟩) 1 1 ∧ w.heap[b]? = some (.cells #[.int .i64 j.id, .int .i64 j.en, .int .i64 j.pe, .string j.ref, .slice a j.lines.length c, .bool j.void] 31 (0, 0))
def BKV (w : World) (x : Value) (l : List Jn) : Prop := ∃ g, x = .pointer (some ⟨g, 0, none⟩) ∧ Bk w g l
structure RegI (B : Nat) (w0 : World) (jv kv vv : Value) (la a2 a3 : Option Addr) (lc c2 c3 : Nat) (d : Nat → Bool) (w : World) (x4 x5 x6 x21 x22 x23 x24 x25 x26 x27 x28 x29 : Value) : Prop where
  bel : Below B w0 w
  l21 : d 0 = true → x21 = jv
  b22 : d 1 = true → SLB w x22 j16 la lc
  o23 : d 2 = true → BKV w x23 [j16]
  l24 : d 3 = true → x24 = kv
  b25 : d 4 = true → SLB w x25 k16 a2 c2
  o26 : d 5 = true → BKV w x26 [k16]
  l27 : d 6 = true → x27 = vv
  b28 : d 7 = true → SLB w x28 v16 a3 c3
  o29 : d 8 = true → BKV w x29 [v16]
  s4 : d 9 = true → BKV w x4 [j16]
  s5 : d 10 = true → BKV w x5 [k16]
  s6 : d 11 = true → BKV w x6 [v16]
theorem SLB.below {w w' : World} {x : Value} {j : Jn} {a : Option Addr} {c : Nat} (h : SLB w x j a c) (hb : Below w.heap.size w w') : SLB w' x j a c := by
  obtain ⟨b, h1, h2⟩ := h
  exact ⟨b, h1, blk_below h2 hb⟩
theorem BKV.below {w w' : World} {x : Value} {l : List Jn} (h : BKV w x l) (hb : Below w.heap.size w w') : BKV w' x l := by
  obtain ⟨g, h1, h2⟩ := h
  exact ⟨g, h1, h2.below hb⟩
section
variable {B : Nat} {w0 w w' : World} {jv kv vv : Value} {la a2 a3 : Option Addr} {lc c2 c3 : Nat} {d : Nat → Bool} {x4 x5 x6 x21 x22 x23 x24 x25 x26 x27 x28 x29 : Value}
theorem RegI.grow (H : RegI B w0 jv kv vv la a2 a3 lc c2 c3 d w x4 x5 x6 x21 x22 x23 x24 x25 x26 x27 x28 x29) (hb : Below w.heap.size w w') (hB : B ≤ w.heap.size) : RegI B w0 jv kv vv la a2 a3 lc c2 c3 d w' x4 x5 x6 x21 x22 x23 x24 x25 x26 x27 x28 x29 :=
  ⟨H.bel.trans (hb.mono hB), H.l21, fun h => (H.b22 h).below hb, fun h => (H.o23 h).below hb, H.l24, fun h => (H.b25 h).below hb, fun h => (H.o26 h).below hb, H.l27, fun h => (H.b28 h).below hb, fun h => (H.o29 h).below hb, fun h => (H.s4 h).below hb, fun h => (H.s5 h).below hb, fun h => (H.s6 h).below hb⟩
end
def RegS (B : Nat) (w0 : World) (p1 p2 p3 y11 y12 y13 y14 y15 y16 y17 y18 y19 y20 jv kv vv : Value) (la a2 a3 : Option Addr) (lc c2 c3 : Nat) (d : Nat → Bool) (a : Act) (w : World) : Prop :=
  ∃ x4 x5 x6 x21 x22 x23 x24 x25 x26 x27 x28 x29, a = { tmps := #[.bool false, p1, p2, p3, x4, x5, x6, undef, undef, undef, undef, y11, y12, y13, y14, y15, y16, y17, y18, y19, y20, x21, x22, x23, x24, x25, x26, x27, x28, x29, undef, undef, undef, undef, undef, undef, undef, undef, undef, undef, undef, undef, undef, undef, undef, undef, undef, undef, undef, undef, undef, undef, undef, undef, undef, undef, undef, undef, undef, undef, undef, undef, undef, undef, undef, undef, undef, undef, undef, undef, undef, undef, undef, undef, undef, undef, undef, undef, undef, undef, undef, undef, undef, undef, undef], defers := [] } ∧ RegI B w0 jv kv vv la a2 a3 lc c2 c3 d w x4 x5 x6 x21 x22 x23 x24 x25 x26 x27 x28 x29
theorem RegS.congr {B : Nat} {w0 w : World} {p1 p2 p3 y11 y12 y13 y14 y15 y16 y17 y18 y19 y20 jv kv vv : Value} {la a2 a3 : Option Addr} {lc c2 c3 : Nat} {d d' : Nat → Bool} {a : Act} (h : ∀ i, i < 12 → d i = d' i) (H : RegS B w0 p1 p2 p3 y11 y12 y13 y14 y15 y16 y17 y18 y19 y20 jv kv vv la a2 a3 lc c2 c3 d a w) : RegS B w0 p1 p2 p3 y11 y12 y13 y14 y15 y16 y17 y18 y19 y20 jv kv vv la a2 a3 lc c2 c3 d' a w := by
  obtain ⟨x4, x5, x6, x21, x22, x23, x24, x25, x26, x27, x28, x29, ha, H⟩ := H
  refine ⟨x4, x5, x6, x21, x22, x23, x24, x25, x26, x27, x28, x29, ha, ?_⟩
  obtain ⟨h1, h2, h3, h4, h5, h6, h7, h8, h9, h10, h11, h12, h13⟩ := H
  rw [h 0 (by omega)] at h2
  rw [h 1 (by omega)] at h3
  rw [h 2 (by omega)] at h4
  rw [h 3 (by omega)] at h5
  rw [h 4 (by omega)] at h6
  rw [h 5 (by omega)] at h7
  rw [h 6 (by omega)] at h8
  rw [h 7 (by omega)] at h9
  rw [h 8 (by omega)] at h10
  rw [h 9 (by omega)] at h11
  rw [h 10 (by omega)] at h12
  rw [h 11 (by omega)] at h13
  exact ⟨h1, h2, h3, h4, h5, h6, h7, h8, h9, h10, h11, h12, h13⟩

set_option maxHeartbeats 16000000 in
set_option maxRecDepth 100000 in
theorem alive16 (w : World) : Calls Try.prog 8 #[] w fun e w' => e = .returned (.bool true) ∧ Below w.heap.size w w' := by
  have HLB := Lib.hid (blk_alloc (blk_new w (.cells #[.int .i64 1, .int .i64 5, .int .i64 0, .int .i64 2, .int .i64 (-5), .int .i64 0] 61)) (.cells #[.int .i64 1, .int .i64 1, .int .i64 3, .string ⟨#[]⟩, .slice (some ⟨w.heap.size, 0, none⟩) 2 2, .bool false] 31))
  have HJB : Hid (((w.alloc (.cells #[.int .i64 1, .int .i64 5, .int .i64 0, .int .i64 2, .int .i64 (-5), .int .i64 0] 61)).alloc (.cells #[.int .i64 1, .int .i64 1, .int .i64 3, .string ⟨#[]⟩, .slice (some ⟨w.heap.size, 0, none⟩) 2 2, .bool false] 31)).heap[w.heap.size + 1]? = some (.cells #[.int .i64 1, .int .i64 1, .int .i64 3, .string ⟨#[]⟩, .slice (some ⟨w.heap.size, 0, none⟩) 2 2, .bool false] 31 (0, 0))) := Lib.hid (by have := blk_new (w.alloc (.cells #[.int .i64 1, .int .i64 5, .int .i64 0, .int .i64 2, .int .i64 (-5), .int .i64 0] 61)) (.cells #[.int .i64 1, .int .i64 1, .int .i64 3, .string ⟨#[]⟩, .slice (some ⟨w.heap.size, 0, none⟩) 2 2, .bool false] 31); simpa using this)
  have HB := Lib.hid (((Below.refl w.heap.size w).alloc (Nat.le_refl _) (.cells #[.int .i64 1, .int .i64 5, .int .i64 0, .int .i64 2, .int .i64 (-5), .int .i64 0] 61)).alloc (by simp) (.cells #[.int .i64 1, .int .i64 1, .int .i64 3, .string ⟨#[]⟩, .slice (some ⟨w.heap.size, 0, none⟩) 2 2, .bool false] 31))
  have HR0 : Hid (tJn.R ((w.alloc (.cells #[.int .i64 1, .int .i64 5, .int .i64 0, .int .i64 2, .int .i64 (-5), .int .i64 0] 61)).alloc (.cells #[.int .i64 1, .int .i64 1, .int .i64 3, .string ⟨#[]⟩, .slice (some ⟨w.heap.size, 0, none⟩) 2 2, .bool false] 31)) (fun _ => True) (jcs j16 (some ⟨w.heap.size, 0, none⟩) 2) j16) := Lib.hid (jn_mk j16 (by decide) (by decide) (by decide) (by decide) (sl_lns2 ⟨1, 5, 0⟩ ⟨2, -5, 0⟩ HLB.out trivial ⟨by decide, by decide, by decide⟩ ⟨by decide, by decide, by decide⟩) (by decide) (by decide) (by rw [line_bytes]; decide))
  go_enter Try.func8, Try.ntmps8
  go_wp2_with fail
  refine abs_world (S := fun wx => wx.heap[w.heap.size + 1]? = some (.cells #[.int .i64 1, .int .i64 1, .int .i64 3, .string ⟨#[]⟩, .slice (some ⟨w.heap.size, 0, none⟩) 2 2, .bool false] 31 (0, 0)) ∧ tJn.R wx (fun _ => True) (jcs j16 (some ⟨w.heap.size, 0, none⟩) 2) j16 ∧ Below w.heap.size w wx) ?_ ⟨HJB.out, HR0.out, HB.out⟩
  rintro wx ⟨hj, hr, hbx⟩
  have HJ := Lib.hid hj
  have HR := Lib.hid hr
  have HBX := Lib.hid hbx
  have hjl := blk_lt hj
  have HNE : Hid (j16.lines ≠ []) := Lib.hid (by decide)
  clear hj hr hbx HLB HJB HB HR0
  refine wp_region_inv (by kernel_rfl) (by kernel_rfl) (by kernel_rfl) (TwoS wx.heap.size wx (.pointer (some ⟨w.heap.size + 1, 0, none⟩)) (.agg #[.int .i64 1, .int .i64 5, .int .i64 0]) (.agg #[.int .i64 2, .int .i64 (-5), .int .i64 0]) (.slice (some ⟨w.heap.size, 0, none⟩) 2 2) (.agg #[.int .i64 1, .int .i64 1, .int .i64 3, .string ⟨#[]⟩, .slice (some ⟨w.heap.size, 0, none⟩) 2 2, .bool false]) (.agg #[.int .i64 1, .int .i64 1, .int .i64 3, .string ⟨#[]⟩, .slice (some ⟨w.heap.size, 0, none⟩) 2 2, .bool false]) j16) (fun d d' a w h H => TwoS.congr h H) ?_ ?_ ?_
  · refine ⟨undef, undef, undef, undef, undef, undef, rfl, ?_⟩
    exact ⟨(Below.refl _ _).drew, by simp, by simp, by simp, by simp, fun _ => rfl, by simp, fun _ => rfl, by simp, by simp, by simp, by simp, by simp, by simp⟩
  · intro d a w3 hd H
    obtain ⟨x2, x3, x15, x16, x17, x18, rfl, H⟩ := H
    have hn := H.n23 (hd 4 (by decide))
    obtain ⟨b2, a2, c2, rfl, hB2, hc2, hr2⟩ := H.s2 (hd 6 (by decide))
    obtain ⟨b3, a3, c3, rfl, hB3, hc3, hr3⟩ := H.s3 (hd 7 (by decide))
    have hne : b2 ≠ b3 := fun e => hn (by rw [e])
    have HC2 := Lib.hid hc2
    have HC3 := Lib.hid hc3
    have HR2 := Lib.hid hr2
    have HR3 := Lib.hid hr3
    have HBEL := Lib.hid H.bel
    have hbxs := HBX.out.size
    have hz2 := blk_cells hc2
    have hz3 := blk_cells hc3
    have hzf2 := blk_frz hc2
    have hzf3 := blk_frz hc3
    have hzl2 := blk_lt hc2
    have hzl3 := blk_lt hc3
    clear H hd hn hc2 hc3 hr2 hr3
    go_wp2_with fail
    have hfar3 : ∀ k, farF wx.heap.size (ptr b2) (ptr b3) undef k → k ≠ b2 ∧ k ≠ b3 := fun k hf => ⟨fun e => hf.2.1 (by rw [e]), fun e => hf.2.2.1 (by rw [e])⟩
    have hW : ∀ k, k ≠ b2 → k ≠ b3 → ((w3.setCell ⟨b2, 2, none⟩ (.int .i64 4)).setCell ⟨b3, 5, none⟩ (.bool true)).heap[k]? = w3.heap[k]? := fun k h2 h3 => by rw [Below.heap_setCell _ _ _ k h3, Below.heap_setCell _ _ _ k h2]
    have hB3w : Below w.heap.size w w3 := HBX.out.trans (HBEL.out.mono hbxs)
    refine abs_world (S := fun wy => wy.heap[w.heap.size + 1]? = some (.cells #[.int .i64 j16.id, .int .i64 j16.en, .int .i64 j16.pe, .string j16.ref, .slice (some ⟨w.heap.size, 0, none⟩) j16.lines.length 2, .bool j16.void] 31 (0, 0)) ∧ tJn.R wy (fun _ => True) (jcs j16 (some ⟨w.heap.size, 0, none⟩) 2) j16 ∧ wy.heap[b2]? = some (.cells #[.int .i64 k16.id, .int .i64 k16.en, .int .i64 k16.pe, .string k16.ref, .slice a2 k16.lines.length c2, .bool k16.void] 31 (0, 0)) ∧ tJn.R wy (fun _ => True) (jcs k16 a2 c2) k16 ∧ wy.heap[b3]? = some (.cells #[.int .i64 v16.id, .int .i64 v16.en, .int .i64 v16.pe, .string v16.ref, .slice a3 v16.lines.length c3, .bool v16.void] 31 (0, 0)) ∧ tJn.R wy (fun _ => True) (jcs v16 a3 c3) v16 ∧ Below w.heap.size w wy) ?_ ⟨?_, ?_, ?_, ?_, ?_, ?_, ?_⟩
    rotate_left
    · exact (hW _ (by omega) (by omega)).trans ((HBEL.out.block _ hjl).trans HJ.out)
    · have h1 : tJn.R w3 (fun k => k < wx.heap.size) (jcs j16 (some ⟨w.heap.size, 0, none⟩) 2) j16 := tJn.keep (fun k hk _ => HBEL.out.block k hk) (tJn.mono (fun k hk _ => hk) HR.out)
      exact tJn.mono (fun _ _ _ => trivial) (tJn.keep (fun k hk hf => hW k (by have := hf; omega) (by have := hf; omega)) h1)
    · exact blk_far (blk_set HC2.out 2 _) (p := ⟨b3, 5, none⟩) hne _
    · obtain ⟨_, _, _, _, h5, h6, h7, h8⟩ := jcs_inv HR2.out
      exact jn_mk k16 (by decide) (by decide) (by decide) (by decide) (Sl.mono (fun _ _ _ => trivial) (Sl.keep (fun k hk hf => hW k (hfar3 k hf).1 (hfar3 k hf).2) h5)) h6 h7 h8
    · exact blk_set (blk_far HC3.out (p := ⟨b2, 2, none⟩) (Ne.symm hne) _) 5 _
    · obtain ⟨_, _, _, _, h5, h6, h7, h8⟩ := jcs_inv HR3.out
      exact jn_mk v16 (by decide) (by decide) (by decide) (by decide) (Sl.mono (fun _ _ _ => trivial) (Sl.keep (fun k hk hf => hW k (hfar3 k hf).1 (hfar3 k hf).2) h5)) h6 h7 h8
    · exact (hB3w.setCell (p := ⟨b2, 2, none⟩) (by show w.heap.size ≤ b2; omega) _).setCell (p := ⟨b3, 5, none⟩) (by show w.heap.size ≤ b3; omega) _
    rintro wy ⟨hj1, hr1, hj2, hr2, hj3, hr3, hby⟩
    have HJ1 := Lib.hid hj1
    have HJ2 := Lib.hid hj2
    have HJ3 := Lib.hid hj3
    have HR1 := Lib.hid hr1
    have HR2 := Lib.hid hr2
    have HR3 := Lib.hid hr3
    have HBY := Lib.hid hby
    clear hj1 hr1 hj2 hr2 hj3 hr3 hby hB3w hW hfar3 hz2 hz3 hzf2 hzf3 hzl2 hzl3 hne hB2 hB3 hjl
    refine wp_region_inv (by kernel_rfl) (by kernel_rfl) (by kernel_rfl) (RegS wy.heap.size wy (.pointer (some ⟨w.heap.size + 1, 0, none⟩)) (ptr b2) (ptr b3) (.agg #[.int .i64 1, .int .i64 5, .int .i64 0]) (.agg #[.int .i64 2, .int .i64 (-5), .int .i64 0]) (.slice (some ⟨w.heap.size, 0, none⟩) 2 2) (.agg #[.int .i64 1, .int .i64 1, .int .i64 3, .string ⟨#[]⟩, .slice (some ⟨w.heap.size, 0, none⟩) 2 2, .bool false]) x15 x16 x17 x18 (.pointer (some ⟨b2, 2, none⟩)) (.pointer (some ⟨b3, 5, none⟩)) (jnv j16 (some ⟨w.heap.size, 0, none⟩) 2) (jnv k16 a2 c2) (jnv v16 a3 c3) (some ⟨w.heap.size, 0, none⟩) a2 a3 2 c2 c3) (fun d d' a w h H => RegS.congr h H) ?_ ?_ ?_
    · refine ⟨undef, undef, undef, undef, undef, undef, undef, undef, undef, undef, undef, undef, rfl, ?_⟩
      exact ⟨(Below.refl _ _).drew, by simp, by simp, by simp, by simp, by simp, by simp, by simp, by simp, by simp, by simp, by simp, by simp⟩
    · intro d a w4 hd H
      obtain ⟨x4, x5, x6, x21, x22, x23, x24, x25, x26, x27, x28, x29, rfl, H⟩ := H
      obtain ⟨g4, rfl, hk4⟩ := H.s4 (hd 9 (by decide))
      obtain ⟨g5, rfl, hk5⟩ := H.s5 (hd 10 (by decide))
      obtain ⟨g6, rfl, hk6⟩ := H.s6 (hd 11 (by decide))
      have HB4 := Lib.hid (HBY.out.trans (H.bel.mono HBY.out.size))
      have HK4 := Lib.hid hk4
      have HK5 := Lib.hid hk5
      have HK6 := Lib.hid hk6
      clear H hd hk4 hk5 hk6
      go_wp2_with fail
      refine (tableF_any HK4.out HK5.out HK6.out).mono ?_
      rintro en w5 ⟨v1, v2, rfl, ho1, ho2, hb⟩
      rw [tab16.1] at ho1
      rw [tab16.2.1] at ho2
      have HB5 := Lib.hid (belows_then HB4.out HB4.out.size hb)
      have HK45 := Lib.hid (HK4.out.below hb)
      have HK65 := Lib.hid (HK6.out.below hb)
      have HO2 := Lib.hid ho2
      obtain ⟨q1, q2, rfl, _, _, _⟩ := ho1.slice
      obtain ⟨q3, q4, rfl, _, _, _⟩ := ho2.slice
      clear ho1 ho2 hb
      go_wp2_with fail
      refine (tableF_any HK45.out HK45.out HK65.out).mono ?_
      rintro en w6 ⟨v3, v4, rfl, ho3, ho4, hb⟩
      rw [tab16.2.2.1] at ho3
      rw [tab16.2.2.2] at ho4
      have HB6 := Lib.hid (belows_then HB5.out HB5.out.size hb)
      have ho2' := HO2.out.below hb
      obtain ⟨q5, q6, rfl, _, _, hs3⟩ := ho3.slice
      obtain ⟨q7, q8, rfl, _, _, _⟩ := ho4.slice
      obtain ⟨ad, ja, jc, rfl, _, hal, _, _, _, _, _, hd5, _⟩ := jn_at hs3 0 (by decide)
      obtain ⟨q9, q10, he, _, _, hs2⟩ := ho2'.slice
      simp only [Value.slice.injEq] at he
      obtain ⟨rfl, _, _⟩ := he
      obtain ⟨bd, rfl, hbl, he0, he1⟩ := cf_at hs2 0 (by decide)
      have e0 : ad.add (0 * 6) = ad := by unfold Addr.add; split <;> simp_all
      have e1 : bd.add (0 * 2) = bd := by unfold Addr.add; split <;> simp_all
      rw [e0] at hd5
      rw [e1] at he0 he1
      have hc5 : w6.cell? ⟨ad.block, ad.off + 5, none⟩ = some (.bool true) := hd5
      have hf0 : w6.cell? bd = some (.int .i64 2) := he0
      have hf1 : w6.cell? ⟨bd.block, bd.off + 1, none⟩ = some (.int .i64 1) := he1
      clear ho3 ho4 hb ho2' hs3 hs2 hd5 he0 he1 e0 e1
      go_wp2_with fail
      go_ret
      exact ⟨rfl, HB6.out⟩
    · refine ⟨?_, ?_, ?_, ?_, ?_, ?_, ?_, ?_, ?_, ?_, ?_, ?_, trivial⟩
      · intro d a wr H hk hdep
        refine inv_step (fun K hK => ?_)
        obtain ⟨x4, x5, x6, x21, x22, x23, x24, x25, x26, x27, x28, x29, rfl, H⟩ := H
        have hB := H.bel.size
        have HH := Lib.hid H
        have hsc := blk_cells ((H.bel.block _ (blk_lt HJ1.out)).trans HJ1.out)
        have hsq := Nat.lt_of_lt_of_le (blk_lt HJ1.out) hB
        clear H hdep hk
        unfold Oper.wp
        go_simp
        have H := HH.out
        refine hK _ _ ⟨x4, x5, x6, _, x22, x23, x24, x25, x26, x27, x28, x29, rfl, ?_⟩
        exact ⟨H.bel, fun _ => rfl, H.b22, H.o23, H.l24, H.b25, H.o26, H.l27, H.b28, H.o29, H.s4, H.s5, H.s6⟩
      · intro d a wr H hk hdep
        refine inv_step (fun K hK => ?_)
        obtain ⟨x4, x5, x6, x21, x22, x23, x24, x25, x26, x27, x28, x29, rfl, H⟩ := H
        have hB := H.bel.size
        have HH := Lib.hid H
        simp [Region.binds] at hdep
        obtain rfl := H.l21 (by first | exact hdep.1 | exact hdep)
        clear H hdep hk
        unfold Oper.wp
        go_simp
        have H := HH.out
        have G := H.grow ((Below.refl _ _).alloc (Nat.le_refl _) (.cells #[.int .i64 j16.id, .int .i64 j16.en, .int .i64 j16.pe, .string j16.ref, .slice (some ⟨w.heap.size, 0, none⟩) j16.lines.length 2, .bool j16.void] 31)) hB
        refine hK _ _ ⟨x4, x5, x6, _, _, x23, x24, x25, x26, x27, x28, x29, rfl, ?_⟩
        exact ⟨G.bel, G.l21, fun _ => ⟨wr.heap.size, rfl, blk_new wr _⟩, G.o23, G.l24, G.b25, G.o26, G.l27, G.b28, G.o29, G.s4, G.s5, G.s6⟩
      · intro d a wr H hk hdep
        refine inv_step (fun K hK => ?_)
        obtain ⟨x4, x5, x6, x21, x22, x23, x24, x25, x26, x27, x28, x29, rfl, H⟩ := H
        have hB := H.bel.size
        have HH := Lib.hid H
        simp [Region.binds] at hdep
        obtain ⟨b, rfl, hbb⟩ := H.b22 (by first | exact hdep.1 | exact hdep)
        have HSL : Hid (Sl tJn wr (fun _ => True) (some ⟨b, 0, none⟩) [j16]) := Lib.hid (sl_oneJ (j := j16) (a := (some ⟨w.heap.size, 0, none⟩)) (cap := 2) hbb trivial (tJn.mono (fun _ _ _ => trivial) (tJn.keep (fun k hk _ => H.bel.block k hk) HR1.out)))
        clear H hdep hk hbb
        unfold Oper.wp
        go_simp
        refine (of_val val16 (some ⟨b, 0, none⟩) 1 _ HSL.out).mono ?_
        rintro en w2 ⟨g, rfl, hat, hb⟩
        have G := HH.out.grow hb hB
        have H := HH.out
        try go_simp
        refine hK _ _ ⟨x4, x5, x6, x21, _, _, x24, x25, x26, x27, x28, x29, rfl, ?_⟩
        exact ⟨G.bel, G.l21, G.b22, fun _ => ⟨g, rfl, hat⟩, G.l24, G.b25, G.o26, G.l27, G.b28, G.o29, G.s4, G.s5, G.s6⟩
      · intro d a wr H hk hdep
        refine inv_step (fun K hK => ?_)
        obtain ⟨x4, x5, x6, x21, x22, x23, x24, x25, x26, x27, x28, x29, rfl, H⟩ := H
        have hB := H.bel.size
        have HH := Lib.hid H
        have hsc := blk_cells ((H.bel.block _ (blk_lt HJ2.out)).trans HJ2.out)
        have hsq := Nat.lt_of_lt_of_le (blk_lt HJ2.out) hB
        clear H hdep hk
        unfold Oper.wp
        go_simp
        have H := HH.out
        refine hK _ _ ⟨x4, x5, x6, x21, x22, x23, _, x25, x26, x27, x28, x29, rfl, ?_⟩
        exact ⟨H.bel, H.l21, H.b22, H.o23, fun _ => rfl, H.b25, H.o26, H.l27, H.b28, H.o29, H.s4, H.s5, H.s6⟩
      · intro d a wr H hk hdep
        refine inv_step (fun K hK => ?_)
        obtain ⟨x4, x5, x6, x21, x22, x23, x24, x25, x26, x27, x28, x29, rfl, H⟩ := H
        have hB := H.bel.size
        have HH := Lib.hid H
        simp [Region.binds] at hdep
        obtain rfl := H.l24 (by first | exact hdep.1 | exact hdep)
        clear H hdep hk
        unfold Oper.wp
        go_simp
        have H := HH.out
        have G := H.grow ((Below.refl _ _).alloc (Nat.le_refl _) (.cells #[.int .i64 k16.id, .int .i64 k16.en, .int .i64 k16.pe, .string k16.ref, .slice a2 k16.lines.length c2, .bool k16.void] 31)) hB
        refine hK _ _ ⟨x4, x5, x6, x21, x22, x23, _, _, x26, x27, x28, x29, rfl, ?_⟩
        exact ⟨G.bel, G.l21, G.b22, G.o23, G.l24, fun _ => ⟨wr.heap.size, rfl, blk_new wr _⟩, G.o26, G.l27, G.b28, G.o29, G.s4, G.s5, G.s6⟩
      · intro d a wr H hk hdep
        refine inv_step (fun K hK => ?_)
        obtain ⟨x4, x5, x6, x21, x22, x23, x24, x25, x26, x27, x28, x29, rfl, H⟩ := H
        have hB := H.bel.size
        have HH := Lib.hid H
        simp [Region.binds] at hdep
        obtain ⟨b, rfl, hbb⟩ := H.b25 (by first | exact hdep.1 | exact hdep)
        have HSL : Hid (Sl tJn wr (fun _ => True) (some ⟨b, 0, none⟩) [k16]) := Lib.hid (sl_oneJ (j := k16) (a := a2) (cap := c2) hbb trivial (tJn.mono (fun _ _ _ => trivial) (tJn.keep (fun k hk _ => H.bel.block k hk) HR2.out)))
        clear H hdep hk hbb
        unfold Oper.wp
        go_simp
        refine (of_val valK (some ⟨b, 0, none⟩) 1 _ HSL.out).mono ?_
        rintro en w2 ⟨g, rfl, hat, hb⟩
        have G := HH.out.grow hb hB
        have H := HH.out
        try go_simp
        refine hK _ _ ⟨x4, x5, x6, x21, x22, x23, x24, _, _, x27, x28, x29, rfl, ?_⟩
        exact ⟨G.bel, G.l21, G.b22, G.o23, G.l24, G.b25, fun _ => ⟨g, rfl, hat⟩, G.l27, G.b28, G.o29, G.s4, G.s5, G.s6⟩
      · intro d a wr H hk hdep
        refine inv_step (fun K hK => ?_)
        obtain ⟨x4, x5, x6, x21, x22, x23, x24, x25, x26, x27, x28, x29, rfl, H⟩ := H
        have hB := H.bel.size
        have HH := Lib.hid H
        have hsc := blk_cells ((H.bel.block _ (blk_lt HJ3.out)).trans HJ3.out)
        have hsq := Nat.lt_of_lt_of_le (blk_lt HJ3.out) hB
        clear H hdep hk
        unfold Oper.wp
        go_simp
        have H := HH.out
        refine hK _ _ ⟨x4, x5, x6, x21, x22, x23, x24, x25, x26, _, x28, x29, rfl, ?_⟩
        exact ⟨H.bel, H.l21, H.b22, H.o23, H.l24, H.b25, H.o26, fun _ => rfl, H.b28, H.o29, H.s4, H.s5, H.s6⟩
      · intro d a wr H hk hdep
        refine inv_step (fun K hK => ?_)
        obtain ⟨x4, x5, x6, x21, x22, x23, x24, x25, x26, x27, x28, x29, rfl, H⟩ := H
        have hB := H.bel.size
        have HH := Lib.hid H
        simp [Region.binds] at hdep
        obtain rfl := H.l27 (by first | exact hdep.1 | exact hdep)
        clear H hdep hk
        unfold Oper.wp
        go_simp
        have H := HH.out
        have G := H.grow ((Below.refl _ _).alloc (Nat.le_refl _) (.cells #[.int .i64 v16.id, .int .i64 v16.en, .int .i64 v16.pe, .string v16.ref, .slice a3 v16.lines.length c3, .bool v16.void] 31)) hB
        refine hK _ _ ⟨x4, x5, x6, x21, x22, x23, x24, x25, x26, _, _, x29, rfl, ?_⟩
        exact ⟨G.bel, G.l21, G.b22, G.o23, G.l24, G.b25, G.o26, G.l27, fun _ => ⟨wr.heap.size, rfl, blk_new wr _⟩, G.o29, G.s4, G.s5, G.s6⟩
      · intro d a wr H hk hdep
        refine inv_step (fun K hK => ?_)
        obtain ⟨x4, x5, x6, x21, x22, x23, x24, x25, x26, x27, x28, x29, rfl, H⟩ := H
        have hB := H.bel.size
        have HH := Lib.hid H
        simp [Region.binds] at hdep
        obtain ⟨b, rfl, hbb⟩ := H.b28 (by first | exact hdep.1 | exact hdep)
        have HSL : Hid (Sl tJn wr (fun _ => True) (some ⟨b, 0, none⟩) [v16]) := Lib.hid (sl_oneJ (j := v16) (a := a3) (cap := c3) hbb trivial (tJn.mono (fun _ _ _ => trivial) (tJn.keep (fun k hk _ => H.bel.block k hk) HR3.out)))
        clear H hdep hk hbb
        unfold Oper.wp
        go_simp
        refine (of_val valV (some ⟨b, 0, none⟩) 1 _ HSL.out).mono ?_
        rintro en w2 ⟨g, rfl, hat, hb⟩
        have G := HH.out.grow hb hB
        have H := HH.out
        try go_simp
        refine hK _ _ ⟨x4, x5, x6, x21, x22, x23, x24, x25, x26, x27, _, _, rfl, ?_⟩
        exact ⟨G.bel, G.l21, G.b22, G.o23, G.l24, G.b25, G.o26, G.l27, G.b28, fun _ => ⟨g, rfl, hat⟩, G.s4, G.s5, G.s6⟩
      · intro d a wr H hk hdep
        refine inv_step (fun K hK => ?_)
        obtain ⟨x4, x5, x6, x21, x22, x23, x24, x25, x26, x27, x28, x29, rfl, H⟩ := H
        have hB := H.bel.size
        have HH := Lib.hid H
        simp [Region.binds] at hdep
        have ho := H.o23 (by simp_all)
        have HO := Lib.hid ho
        clear H hdep hk ho
        unfold Oper.wp
        go_simp
        have H := HH.out
        refine hK _ _ ⟨_, x5, x6, x21, x22, x23, x24, x25, x26, x27, x28, x29, rfl, ?_⟩
        exact ⟨H.bel, H.l21, H.b22, H.o23, H.l24, H.b25, H.o26, H.l27, H.b28, H.o29, fun _ => HO.out, H.s5, H.s6⟩
      · intro d a wr H hk hdep
        refine inv_step (fun K hK => ?_)
        obtain ⟨x4, x5, x6, x21, x22, x23, x24, x25, x26, x27, x28, x29, rfl, H⟩ := H
        have hB := H.bel.size
        have HH := Lib.hid H
        simp [Region.binds] at hdep
        have ho := H.o26 (by simp_all)
        have HO := Lib.hid ho
        clear H hdep hk ho
        unfold Oper.wp
        go_simp
        have H := HH.out
        refine hK _ _ ⟨x4, _, x6, x21, x22, x23, x24, x25, x26, x27, x28, x29, rfl, ?_⟩
        exact ⟨H.bel, H.l21, H.b22, H.o23, H.l24, H.b25, H.o26, H.l27, H.b28, H.o29, H.s4, fun _ => HO.out, H.s6⟩
      · intro d a wr H hk hdep
        refine inv_step (fun K hK => ?_)
        obtain ⟨x4, x5, x6, x21, x22, x23, x24, x25, x26, x27, x28, x29, rfl, H⟩ := H
        have hB := H.bel.size
        have HH := Lib.hid H
        simp [Region.binds] at hdep
        have ho := H.o29 (by simp_all)
        have HO := Lib.hid ho
        clear H hdep hk ho
        unfold Oper.wp
        go_simp
        have H := HH.out
        refine hK _ _ ⟨x4, x5, _, x21, x22, x23, x24, x25, x26, x27, x28, x29, rfl, ?_⟩
        exact ⟨H.bel, H.l21, H.b22, H.o23, H.l24, H.b25, H.o26, H.l27, H.b28, H.o29, H.s4, H.s5, fun _ => HO.out⟩
  · refine ⟨?_, ?_, ?_, ?_, ?_, ?_, ?_, ?_, trivial⟩
    · intro d a wr H hk hdep
      refine inv_step (fun K hK => ?_)
      obtain ⟨x2, x3, x15, x16, x17, x18, rfl, H⟩ := H
      have hB := H.bel.size
      have HH := Lib.hid H
      have hsc := blk_cells ((H.bel.block _ hjl).trans HJ.out)
      have hsq := Nat.lt_of_lt_of_le hjl hB
      clear H hdep hk
      unfold Oper.wp
      go_simp
      have H := HH.out
      refine hK _ _ ⟨x2, x3, _, x16, x17, x18, rfl, ?_⟩
      exact ⟨H.bel, fun _ => rfl, H.c16, H.l17, H.c18, H.u2, H.a2, H.u3, H.a3, H.n23, H.q6, H.q7, H.s2, H.s3⟩
    · intro d a wr H hk hdep
      refine inv_step (fun K hK => ?_)
      obtain ⟨x2, x3, x15, x16, x17, x18, rfl, H⟩ := H
      have hB := H.bel.size
      have HH := Lib.hid H
      simp [Region.binds] at hdep
      obtain rfl := H.l15 (by first | exact hdep.1 | exact hdep)
      clear H hdep hk
      unfold Oper.wp
      go_simp
      refine (rcopy_any j16 (some ⟨w.heap.size, 0, none⟩) 2 _ (tJn.keep (fun k hk _ => HH.out.bel.block k hk) HR.out) HNE.out).mono ?_
      rintro en w2 ⟨a2, c2, rfl, hb, hr⟩
      have G := HH.out.grow hb hB
      have H := HH.out
      try go_simp
      refine hK _ _ ⟨x2, x3, _, _, x17, x18, rfl, ?_⟩
      exact ⟨G.bel, G.l15, fun _ => ⟨a2, c2, rfl, tJn.mono (fun k _ hf => H.far hf.1 (Nat.le_trans hB hf.1)) hr⟩, G.l17, G.c18, G.u2, G.a2, G.u3, G.a3, G.n23, G.q6, G.q7, G.s2, G.s3⟩
    · intro d a wr H hk hdep
      refine inv_step (fun K hK => ?_)
      obtain ⟨x2, x3, x15, x16, x17, x18, rfl, H⟩ := H
      have hB := H.bel.size
      have HH := Lib.hid H
      have hsc := blk_cells ((H.bel.block _ hjl).trans HJ.out)
      have hsq := Nat.lt_of_lt_of_le hjl hB
      clear H hdep hk
      unfold Oper.wp
      go_simp
      have H := HH.out
      refine hK _ _ ⟨x2, x3, x15, x16, _, x18, rfl, ?_⟩
      exact ⟨H.bel, H.l15, H.c16, fun _ => rfl, H.c18, H.u2, H.a2, H.u3, H.a3, H.n23, H.q6, H.q7, H.s2, H.s3⟩
    · intro d a wr H hk hdep
      refine inv_step (fun K hK => ?_)
      obtain ⟨x2, x3, x15, x16, x17, x18, rfl, H⟩ := H
      have hB := H.bel.size
      have HH := Lib.hid H
      simp [Region.binds] at hdep
      obtain rfl := H.l17 (by first | exact hdep.1 | exact hdep)
      clear H hdep hk
      unfold Oper.wp
      go_simp
      refine (rcopy_any j16 (some ⟨w.heap.size, 0, none⟩) 2 _ (tJn.keep (fun k hk _ => HH.out.bel.block k hk) HR.out) HNE.out).mono ?_
      rintro en w2 ⟨a2, c2, rfl, hb, hr⟩
      have G := HH.out.grow hb hB
      have H := HH.out
      try go_simp
      refine hK _ _ ⟨x2, x3, x15, x16, _, _, rfl, ?_⟩
      exact ⟨G.bel, G.l15, G.c16, G.l17, fun _ => ⟨a2, c2, rfl, tJn.mono (fun k _ hf => H.far hf.1 (Nat.le_trans hB hf.1)) hr⟩, G.u2, G.a2, G.u3, G.a3, G.n23, G.q6, G.q7, G.s2, G.s3⟩
    · intro d a wr H hk hdep
      refine inv_step (fun K hK => ?_)
      obtain ⟨x2, x3, x15, x16, x17, x18, rfl, H⟩ := H
      have hB := H.bel.size
      have HH := Lib.hid H
      have hno : ¬ d 6 = true := fun h6 => by have := (H.q6 h6).1; rw [hk] at this; cases this
      clear H hdep
      unfold Oper.wp
      go_simp
      have H := HH.out
      have G := H.grow (w' := wr.alloc (.cells #[.int .i64 0, .int .i64 0, .int .i64 0, .string ⟨#[]⟩, .slice none 0 0, .bool false] 31)) ((Below.refl _ _).alloc (Nat.le_refl _) _) hB
      have hfar := H.far (Nat.le_refl _) hB
      refine hK _ _ ⟨_, x3, x15, x16, x17, x18, rfl, ?_⟩
      exact ⟨G.bel, H.l15, fun h => (H.c16 h).new6 _, H.l17, fun h => (H.c18 h).new6 _, fun h => absurd h (by simp [updD]), fun _ => PZ.new hB _ _ _ _ _ _, H.u3, G.a3, fun _ => Ne.symm hfar.2.2.1, fun h => absurd h hno, fun h => absurd (H.q7 h) hno, fun h => absurd h hno, fun h => absurd (H.q7 h) hno⟩
    · intro d a wr H hk hdep
      refine inv_step (fun K hK => ?_)
      obtain ⟨x2, x3, x15, x16, x17, x18, rfl, H⟩ := H
      have hB := H.bel.size
      have HH := Lib.hid H
      have hno : ¬ d 6 = true := fun h6 => by have := (H.q6 h6).2; rw [hk] at this; cases this
      clear H hdep
      unfold Oper.wp
      go_simp
      have H := HH.out
      have G := H.grow (w' := wr.alloc (.cells #[.int .i64 0, .int .i64 0, .int .i64 0, .string ⟨#[]⟩, .slice none 0 0, .bool false] 31)) ((Below.refl _ _).alloc (Nat.le_refl _) _) hB
      have hfar := H.far (Nat.le_refl _) hB
      refine hK _ _ ⟨x2, _, x15, x16, x17, x18, rfl, ?_⟩
      exact ⟨G.bel, H.l15, fun h => (H.c16 h).new7 _, H.l17, fun h => (H.c18 h).new7 _, H.u2, G.a2, fun h => absurd h (by simp [updD]), fun _ => PZ.new hB _ _ _ _ _ _, fun _ => hfar.2.1, fun h => absurd h hno, fun h => absurd (H.q7 h) hno, fun h => absurd h hno, fun h => absurd (H.q7 h) hno⟩
    · intro d a wr H hk hdep
      refine inv_step (fun K hK => ?_)
      obtain ⟨x2, x3, x15, x16, x17, x18, rfl, H⟩ := H
      have hB := H.bel.size
      have HH := Lib.hid H
      simp [Region.binds] at hdep
      have e4 : d 4 = true := by simp_all
      have e5 : d 5 = true := by simp_all
      have ec : d 1 = true := by simp_all
      obtain ⟨b, y0, y1, y2, y3, y4, y5, rfl, hBb, h3⟩ := H.a2 e4
      obtain ⟨a2, c2, rfl, hr⟩ := H.c16 ec
      have HRR := Lib.hid hr
      have hz := blk_cells h3
      have hzf := blk_frz h3
      have hzl := blk_lt h3
      obtain ⟨w4, hw4, h4, hs4, hk4, hb4⟩ := six wr b h3 (.int .i64 j16.id) (.int .i64 j16.en) (.int .i64 j16.pe) (.string j16.ref) (.slice a2 j16.lines.length c2) (.bool j16.void)
      have HS4 := Lib.hid (And.intro hw4 (And.intro h4 (And.intro hs4 (And.intro hk4 hb4))))
      clear H hdep hr h4 hs4 hk4 hb4 hw4
      unfold Oper.wp
      go_simp
      have H := HH.out
      obtain ⟨hw4, h4, hs4, hk4, hb4⟩ := HS4.out
      rw [hw4]
      have hr := HRR.out
      have hst : St6 wr w4 b := ⟨hs4, hk4, hb4⟩
      refine hK _ _ ⟨_, x3, x15, _, x17, x18, rfl, ?_⟩
      exact ⟨hb4 _ _ H.bel hBb, H.l15, fun h => (H.c16 h).store hst (fun k hf e => hf.2.1 (by rw [e])), H.l17, fun h => (H.c18 h).store hst (fun k hf e => hf.2.1 (by rw [e])), fun h => absurd h (by simp [updD, e4, e5]), fun _ => ⟨b, _, _, _, _, _, _, rfl, hBb, h4⟩, fun h => absurd h (by simp [updD, e4, e5]), fun h => (H.a3 h).store hst (Ne.symm (H.n23 e4)), H.n23, fun _ => ⟨by simp [updD, e4], by simp [updD, e5]⟩, fun _ => by simp [updD], fun _ => ⟨b, a2, c2, rfl, hBb, h4, tJn.keep (fun k hk hf => hk4 k (fun e => hf.2.1 (by rw [e]))) hr⟩, fun h => absurd (H.q7 h) (by rw [hk]; simp)⟩
    · intro d a wr H hk hdep
      refine inv_step (fun K hK => ?_)
      obtain ⟨x2, x3, x15, x16, x17, x18, rfl, H⟩ := H
      have hB := H.bel.size
      have HH := Lib.hid H
      simp [Region.binds] at hdep
      have ep : d 6 = true := by simp_all
      have ec : d 3 = true := by simp_all
      obtain ⟨e4, e5⟩ := H.q6 ep
      obtain ⟨b, y0, y1, y2, y3, y4, y5, rfl, hBb, h3⟩ := H.a3 e5
      obtain ⟨a2, c2, rfl, hr⟩ := H.c18 ec
      have HRR := Lib.hid hr
      have hz := blk_cells h3
      have hzf := blk_frz h3
      have hzl := blk_lt h3
      obtain ⟨w4, hw4, h4, hs4, hk4, hb4⟩ := six wr b h3 (.int .i64 j16.id) (.int .i64 j16.en) (.int .i64 j16.pe) (.string j16.ref) (.slice a2 j16.lines.length c2) (.bool j16.void)
      have HS4 := Lib.hid (And.intro hw4 (And.intro h4 (And.intro hs4 (And.intro hk4 hb4))))
      clear H hdep hr h4 hs4 hk4 hb4 hw4
      unfold Oper.wp
      go_simp
      have H := HH.out
      obtain ⟨hw4, h4, hs4, hk4, hb4⟩ := HS4.out
      rw [hw4]
      have hr := HRR.out
      have hst : St6 wr w4 b := ⟨hs4, hk4, hb4⟩
      refine hK _ _ ⟨x2, _, x15, x16, x17, _, rfl, ?_⟩
      exact ⟨hb4 _ _ H.bel hBb, H.l15, fun h => (H.c16 h).store hst (fun k hf e => hf.2.2.1 (by rw [e])), H.l17, fun h => (H.c18 h).store hst (fun k hf e => hf.2.2.1 (by rw [e])), fun h => absurd h (by simp [updD, e4, e5]), fun h => (H.a2 h).store hst (H.n23 e4), fun h => absurd h (by simp [updD, e4, e5]), fun _ => ⟨b, _, _, _, _, _, _, rfl, hBb, h4⟩, H.n23, fun _ => ⟨by simp [updD, e4], by simp [updD, e5]⟩, fun _ => by simp [updD, ep], fun h => (H.s2 h).store hst (H.n23 e4) (fun k hf e => hf.2.2.1 (by rw [e])), fun _ => ⟨b, a2, c2, rfl, hBb, h4, tJn.keep (fun k hk hf => hk4 k (fun e => hf.2.2.1 (by rw [e]))) hr⟩⟩
end Go.Proofs.Ytogikjnfmcfbmaa
