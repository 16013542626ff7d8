/- law 16: Three.Make. -/
import Derived.Test.YtogikjnfmcfbmaaX37MergeApart
import Derived.Test.YtogikjnfmcfbmaaX25MergeApart
import Derived.OwnWalk
set_option linter.unusedVariables false
set_option linter.unusedSimpArgs false
namespace Go.Proofs.Ytogikjnfmcfbmaa
open Go.RowKit Go.Maps

def OWS (w : World) (x : Value) (l : List Jn) : Prop := ∃ a c, x = .slice a l.length c ∧ Sl tJn w (fun _ => True) a l
theorem OWS.below {w w' : World} {x : Value} {l : List Jn} (h : OWS w x l) (hb : Below w.heap.size w w') : OWS w' x l := by
  obtain ⟨a, c, h1, h2⟩ := h
  exact ⟨a, c, h1, Sl.keep (fun k hk _ => hb.block k hk) h2⟩
theorem OWS.own {w : World} {base : Nat} {x : Value} {l : List Jn} (h : OwnL tJn w base x l) : OWS w x l := by
  obtain ⟨a, c, h1, _, _, h2⟩ := h.slice
  exact ⟨a, c, h1, h2⟩
structure MakI (B : Nat) (w0 : World) (bv p1 p2 p3 p4 e1v e2v m1v m2v : Value) (L1 L2 : List Jn) (d : Nat → Bool) (w : World) (x2 x3 x4 x9 x10 x11 x12 x13 x14 x15 x16 x17 x18 x19 x20 x21 : Value) : Prop where
  bel : Below B w0 w
  f0 : d 0 = true → x9 = bv
  f1 : d 1 = true → x10 = bv
  f2 : d 2 = true → x11 = p3
  f3 : d 3 = true → x12 = e1v
  f4 : d 4 = true → x13 = p1
  f5 : d 5 = true → x14 = m1v
  f6 : d 6 = true → OWS w x15 L1
  f7 : d 7 = true → x16 = bv
  f8 : d 8 = true → x17 = p4
  f9 : d 9 = true → x18 = e2v
  f10 : d 10 = true → x19 = p2
  f11 : d 11 = true → x20 = m2v
  f12 : d 12 = true → OWS w x21 L2
  f13 : d 13 = true → x2 = bv
  f14 : d 14 = true → OWS w x3 L1
  f15 : d 15 = true → OWS w x4 L2
section
variable {B : Nat} {w0 w w' : World} {bv p1 p2 p3 p4 e1v e2v m1v m2v : Value} {L1 L2 : List Jn} {d d' : Nat → Bool} {x2 x3 x4 x9 x10 x11 x12 x13 x14 x15 x16 x17 x18 x19 x20 x21 : Value}
theorem MakI.grow (H : MakI B w0 bv p1 p2 p3 p4 e1v e2v m1v m2v L1 L2 d w x2 x3 x4 x9 x10 x11 x12 x13 x14 x15 x16 x17 x18 x19 x20 x21) (hb : Below w.heap.size w w') (hB : B ≤ w.heap.size) : MakI B w0 bv p1 p2 p3 p4 e1v e2v m1v m2v L1 L2 d w' x2 x3 x4 x9 x10 x11 x12 x13 x14 x15 x16 x17 x18 x19 x20 x21 :=
  ⟨H.bel.trans (hb.mono hB), H.f0, H.f1, H.f2, H.f3, H.f4, H.f5, fun h => (H.f6 h).below hb, H.f7, H.f8, H.f9, H.f10, H.f11, fun h => (H.f12 h).below hb, H.f13, fun h => (H.f14 h).below hb, fun h => (H.f15 h).below hb⟩
end
def MakS (B : Nat) (w0 : World) (p0 q1 y6 y7 y8 bv p1 p2 p3 p4 e1v e2v m1v m2v : Value) (L1 L2 : List Jn) (d : Nat → Bool) (a : Act) (w : World) : Prop :=
  ∃ x2 x3 x4 x9 x10 x11 x12 x13 x14 x15 x16 x17 x18 x19 x20 x21, a = { tmps := #[p0, q1, x2, x3, x4, bv, y6, y7, y8, x9, x10, x11, x12, x13, x14, x15, x16, x17, x18, x19, x20, x21], defers := [] } ∧ MakI B w0 bv p1 p2 p3 p4 e1v e2v m1v m2v L1 L2 d w x2 x3 x4 x9 x10 x11 x12 x13 x14 x15 x16 x17 x18 x19 x20 x21
theorem MakS.congr {B : Nat} {w0 w : World} {p0 q1 y6 y7 y8 bv p1 p2 p3 p4 e1v e2v m1v m2v : Value} {L1 L2 : List Jn} {d d' : Nat → Bool} {a : Act} (h : ∀ i, i < 16 → d i = d' i) (H : MakS B w0 p0 q1 y6 y7 y8 bv p1 p2 p3 p4 e1v e2v m1v m2v L1 L2 d a w) : MakS B w0 p0 q1 y6 y7 y8 bv p1 p2 p3 p4 e1v e2v m1v m2v L1 L2 d' a w := by
  obtain ⟨x2, x3, x4, x9, x10, x11, x12, x13, x14, x15, x16, x17, x18, x19, x20, x21, ha, H⟩ := H
  refine ⟨x2, x3, x4, x9, x10, x11, x12, x13, x14, x15, x16, x17, x18, x19, x20, x21, ha, ?_⟩
  obtain ⟨h0, h1, h2, h3, h4, h5, h6, h7, h8, h9, h10, h11, h12, h13, h14, h15, h16⟩ := H
  rw [h 0 (by omega)] at h1
  rw [h 1 (by omega)] at h2
  rw [h 2 (by omega)] at h3
  rw [h 3 (by omega)] at h4
  rw [h 4 (by omega)] at h5
  rw [h 5 (by omega)] at h6
  rw [h 6 (by omega)] at h7
  rw [h 7 (by omega)] at h8
  rw [h 8 (by omega)] at h9
  rw [h 9 (by omega)] at h10
  rw [h 10 (by omega)] at h11
  rw [h 11 (by omega)] at h12
  rw [h 12 (by omega)] at h13
  rw [h 13 (by omega)] at h14
  rw [h 14 (by omega)] at h15
  rw [h 15 (by omega)] at h16
  exact ⟨h0, h1, h2, h3, h4, h5, h6, h7, h8, h9, h10, h11, h12, h13, h14, h15, h16⟩

def MakeP (w : World) (l0 l1 l2 : List Jn) (es1 es2 : List Ed) (e : Ending) (w' : World) : Prop :=
  ∃ v0 v1 v2, e = .returned (.tuple #[v0, v1, v2]) ∧ OWS w' v0 (fitJ 25 l0) ∧ OWS w' v1 (changedJ (fitJ 25 l0) es1 l1) ∧ OWS w' v2 (changedJ (fitJ 25 l0) es2 l2) ∧ Below w.heap.size w w'

set_option maxHeartbeats 16000000 in
set_option maxRecDepth 100000 in
theorem make_any (l0 l1 l2 : List Jn) (es1 es2 : List Ed) (a0 a1 a2 e1 e2 : Option Addr) (c0 c1 c2 d1 d2 : Nat) (w : World) {F0 F1 F2 F3 F4 : Nat → Prop} (h0 : Sl tJn w F0 a0 l0) (h1 : Sl tJn w F1 a1 l1) (h2 : Sl tJn w F2 a2 l2) (g1 : Sl tEd w F3 e1 es1) (g2 : Sl tEd w F4 e2 es2)
    (k0 : l0.length ≤ maxLen) (k1 : l1.length ≤ maxLen) (k2 : l2.length ≤ maxLen) (m1 : es1.length ≤ maxLen) (m2 : es2.length ≤ maxLen) :
    Calls Try.prog 9 #[.agg #[.slice a0 l0.length c0, .slice a1 l1.length c1, .slice a2 l2.length c2, .slice e1 es1.length d1, .slice e2 es2.length d2]] w (MakeP w l0 l1 l2 es1 es2) := by
  have HB := Lib.hid ((Below.refl w.heap.size w).alloc (Nat.le_refl _) (.cells #[.slice a0 l0.length c0, .slice a1 l1.length c1, .slice a2 l2.length c2, .slice e1 es1.length d1, .slice e2 es2.length d2] 25))
  have HZ := Lib.hid (blk_new w (.cells #[.slice a0 l0.length c0, .slice a1 l1.length c1, .slice a2 l2.length c2, .slice e1 es1.length d1, .slice e2 es2.length d2] 25))
  have H0 := Lib.hid (Sl.keep (fun k hk _ => HB.out.block k hk) h0)
  have H1 := Lib.hid (Sl.keep (fun k hk _ => HB.out.block k hk) h1)
  have H2 := Lib.hid (Sl.keep (fun k hk _ => HB.out.block k hk) h2)
  have G1 := Lib.hid (Sl.keep (fun k hk _ => HB.out.block k hk) g1)
  have G2 := Lib.hid (Sl.keep (fun k hk _ => HB.out.block k hk) g2)
  have K0 := Lib.hid k0
  have K1 := Lib.hid k1
  have K2 := Lib.hid k2
  have M1 := Lib.hid m1
  have M2 := Lib.hid m2
  clear h0 h1 h2 g1 g2 k0 k1 k2 m1 m2
  go_enter Try.func9, Try.ntmps9
  go_wp2_with fail
  refine (fit_any l0 a0 c0 25 _ H0.out K0.out (by omega)).mono ?_
  rintro en wx ⟨v5, rfl, ho, hb⟩
  have HBX := Lib.hid (belows_then HB.out HB.out.size hb)
  have HG := Lib.hid (blk_below HZ.out hb)
  have H1X := Lib.hid (Sl.keep (fun k hk _ => hb.block k hk) H1.out)
  have H2X := Lib.hid (Sl.keep (fun k hk _ => hb.block k hk) H2.out)
  have G1X := Lib.hid (Sl.keep (fun k hk _ => hb.block k hk) G1.out)
  have G2X := Lib.hid (Sl.keep (fun k hk _ => hb.block k hk) G2.out)
  have hval := fit_val 25 l0
  have HFL : Hid ((fitJ 25 l0).length ≤ 1000) := Lib.hid (Nat.le_trans hval.len (by decide))
  have HFN : Hid (∀ j ∈ fitJ 25 l0, j.lines ≠ []) := Lib.hid (fun x hx => (hval.good x hx).1)
  obtain ⟨a5, c5, rfl, _, _, hs5⟩ := ho.slice
  have HS5 := Lib.hid hs5
  have hgl := blk_lt HG.out
  have hbxs := HBX.out.size
  clear ho hb hs5 hval HB HZ H0 H1 H2 G1 G2
  go_wp2_with fail
  refine wp_region_inv (by kernel_rfl) (by kernel_rfl) (by kernel_rfl) (MakS wx.heap.size wx (.agg #[.slice a0 l0.length c0, .slice a1 l1.length c1, .slice a2 l2.length c2, .slice e1 es1.length d1, .slice e2 es2.length d2]) (.pointer (some ⟨w.heap.size, 0, none⟩)) (.pointer (some ⟨w.heap.size, 0, none⟩)) (.slice a0 l0.length c0) (.slice a5 (fitJ 25 l0).length c5) (.slice a5 (fitJ 25 l0).length c5)
    (.pointer (some ⟨w.heap.size, 1, none⟩)) (.pointer (some ⟨w.heap.size, 2, none⟩)) (.pointer (some ⟨w.heap.size, 3, none⟩)) (.pointer (some ⟨w.heap.size, 4, none⟩)) (.slice e1 es1.length d1) (.slice e2 es2.length d2) (.slice a1 l1.length c1) (.slice a2 l2.length c2) (changedJ (fitJ 25 l0) es1 l1) (changedJ (fitJ 25 l0) es2 l2)) (fun d d' a w h H => MakS.congr h H) ?_ ?_ ?_
  · refine ⟨.slice none 0 0, .slice none 0 0, .slice none 0 0, undef, undef, undef, undef, undef, undef, undef, undef, undef, undef, undef, undef, undef, rfl, ?_⟩
    exact ⟨(Below.refl _ _).drew, by simp, by simp, by simp, by simp, by simp, by simp, by simp, by simp, by simp, by simp, by simp, by simp, by simp, by simp, by simp, by simp⟩
  · intro d a w3 hd H
    obtain ⟨x2, x3, x4, x9, x10, x11, x12, x13, x14, x15, x16, x17, x18, x19, x20, x21, rfl, H⟩ := H
    obtain rfl := H.f13 (hd 13 (by decide))
    have h14 := H.f14 (hd 14 (by decide))
    have h15 := H.f15 (hd 15 (by decide))
    have HB3 := Lib.hid (HBX.out.trans (H.bel.mono hbxs))
    have HF := Lib.hid (And.intro h14 h15)
    have HS3 : Hid (OWS w3 (.slice a5 (fitJ 25 l0).length c5) (fitJ 25 l0)) := Lib.hid ⟨a5, c5, rfl, Sl.keep (fun k hk _ => H.bel.block k hk) HS5.out⟩
    clear H hd h14 h15
    go_wp2_with fail
    go_ret3
    exact ⟨_, _, _, rfl, HS3.out, HF.out.1, HF.out.2, HB3.out⟩
  · refine ⟨?_, ?_, ?_, ?_, ?_, ?_, ?_, ?_, ?_, ?_, ?_, ?_, ?_, ?_, ?_, ?_, trivial⟩
    · intro d a wr H hk hdep
      refine inv_step (fun K hK => ?_)
      obtain ⟨x2, x3, x4, x9, x10, x11, x12, x13, x14, x15, x16, x17, x18, x19, x20, x21, rfl, H⟩ := H
      have hB := H.bel.size
      have HH := Lib.hid H
      clear H hdep hk
      unfold Oper.wp
      go_simp
      have H := HH.out
      refine hK _ _ ⟨x2, x3, x4, _, x10, x11, x12, x13, x14, x15, x16, x17, x18, x19, x20, x21, rfl, ?_⟩
      exact ⟨H.bel, fun _ => rfl, H.f1, H.f2, H.f3, H.f4, H.f5, H.f6, H.f7, H.f8, H.f9, H.f10, H.f11, H.f12, H.f13, H.f14, H.f15⟩
    · intro d a wr H hk hdep
      refine inv_step (fun K hK => ?_)
      obtain ⟨x2, x3, x4, x9, x10, x11, x12, x13, x14, x15, x16, x17, x18, x19, x20, x21, rfl, H⟩ := H
      have hB := H.bel.size
      have HH := Lib.hid H
      clear H hdep hk
      unfold Oper.wp
      go_simp
      have H := HH.out
      refine hK _ _ ⟨x2, x3, x4, x9, _, x11, x12, x13, x14, x15, x16, x17, x18, x19, x20, x21, rfl, ?_⟩
      exact ⟨H.bel, H.f0, fun _ => rfl, H.f2, H.f3, H.f4, H.f5, H.f6, H.f7, H.f8, H.f9, H.f10, H.f11, H.f12, H.f13, H.f14, H.f15⟩
    · intro d a wr H hk hdep
      refine inv_step (fun K hK => ?_)
      obtain ⟨x2, x3, x4, x9, x10, x11, x12, x13, x14, x15, x16, x17, x18, x19, x20, x21, rfl, H⟩ := H
      have hB := H.bel.size
      have HH := Lib.hid H
      have hsc := blk_cells ((H.bel.block _ hgl).trans HG.out)
      have hsq := Nat.lt_of_lt_of_le hgl hB
      clear H hdep hk
      unfold Oper.wp
      go_simp
      have H := HH.out
      refine hK _ _ ⟨x2, x3, x4, x9, x10, _, x12, x13, x14, x15, x16, x17, x18, x19, x20, x21, rfl, ?_⟩
      exact ⟨H.bel, H.f0, H.f1, fun _ => rfl, H.f3, H.f4, H.f5, H.f6, H.f7, H.f8, H.f9, H.f10, H.f11, H.f12, H.f13, H.f14, H.f15⟩
    · intro d a wr H hk hdep
      refine inv_step (fun K hK => ?_)
      obtain ⟨x2, x3, x4, x9, x10, x11, x12, x13, x14, x15, x16, x17, x18, x19, x20, x21, rfl, H⟩ := H
      have hB := H.bel.size
      have HH := Lib.hid H
      simp [Region.binds] at hdep
      obtain rfl := H.f2 (by simp_all)
      have hsc := blk_cells ((H.bel.block _ hgl).trans HG.out)
      have hsq := Nat.lt_of_lt_of_le hgl hB
      clear H hdep hk
      unfold Oper.wp
      go_simp
      have H := HH.out
      refine hK _ _ ⟨x2, x3, x4, x9, x10, _, _, x13, x14, x15, x16, x17, x18, x19, x20, x21, rfl, ?_⟩
      exact ⟨H.bel, H.f0, H.f1, H.f2, fun _ => rfl, H.f4, H.f5, H.f6, H.f7, H.f8, H.f9, H.f10, H.f11, H.f12, H.f13, H.f14, H.f15⟩
    · intro d a wr H hk hdep
      refine inv_step (fun K hK => ?_)
      obtain ⟨x2, x3, x4, x9, x10, x11, x12, x13, x14, x15, x16, x17, x18, x19, x20, x21, rfl, H⟩ := H
      have hB := H.bel.size
      have HH := Lib.hid H
      have hsc := blk_cells ((H.bel.block _ hgl).trans HG.out)
      have hsq := Nat.lt_of_lt_of_le hgl hB
      clear H hdep hk
      unfold Oper.wp
      go_simp
      have H := HH.out
      refine hK _ _ ⟨x2, x3, x4, x9, x10, x11, x12, _, x14, x15, x16, x17, x18, x19, x20, x21, rfl, ?_⟩
      exact ⟨H.bel, H.f0, H.f1, H.f2, H.f3, fun _ => rfl, H.f5, H.f6, H.f7, H.f8, H.f9, H.f10, H.f11, H.f12, H.f13, H.f14, H.f15⟩
    · intro d a wr H hk hdep
      refine inv_step (fun K hK => ?_)
      obtain ⟨x2, x3, x4, x9, x10, x11, x12, x13, x14, x15, x16, x17, x18, x19, x20, x21, rfl, H⟩ := H
      have hB := H.bel.size
      have HH := Lib.hid H
      simp [Region.binds] at hdep
      obtain rfl := H.f4 (by simp_all)
      have hsc := blk_cells ((H.bel.block _ hgl).trans HG.out)
      have hsq := Nat.lt_of_lt_of_le hgl hB
      clear H hdep hk
      unfold Oper.wp
      go_simp
      have H := HH.out
      refine hK _ _ ⟨x2, x3, x4, x9, x10, x11, x12, _, _, x15, x16, x17, x18, x19, x20, x21, rfl, ?_⟩
      exact ⟨H.bel, H.f0, H.f1, H.f2, H.f3, H.f4, fun _ => rfl, H.f6, H.f7, H.f8, H.f9, H.f10, H.f11, H.f12, H.f13, H.f14, H.f15⟩
    · intro d a wr H hk hdep
      refine inv_step (fun K hK => ?_)
      obtain ⟨x2, x3, x4, x9, x10, x11, x12, x13, x14, x15, x16, x17, x18, x19, x20, x21, rfl, H⟩ := H
      have hB := H.bel.size
      have HH := Lib.hid H
      simp [Region.binds] at hdep
      obtain rfl := H.f1 (by simp_all)
      obtain rfl := H.f3 (by simp_all)
      obtain rfl := H.f5 (by simp_all)
      clear H hdep hk
      unfold Oper.wp
      go_simp
      refine (changed_any (fitJ 25 l0) es1 l1 a5 e1 a1 c5 d1 c1 _ (Sl.keep (fun k hk _ => HH.out.bel.block k hk) HS5.out) HFL.out HFN.out (Sl.keep (fun k hk _ => HH.out.bel.block k hk) G1X.out) M1.out (Sl.keep (fun k hk _ => HH.out.bel.block k hk) H1X.out) K1.out).mono ?_
      rintro en w2 ⟨v, rfl, ho, hb⟩
      have G := HH.out.grow hb hB
      have H := HH.out
      try go_simp
      refine hK _ _ ⟨x2, x3, x4, x9, _, x11, _, x13, _, _, x16, x17, x18, x19, x20, x21, rfl, ?_⟩
      exact ⟨G.bel, G.f0, G.f1, G.f2, G.f3, G.f4, G.f5, fun _ => OWS.own ho, G.f7, G.f8, G.f9, G.f10, G.f11, G.f12, G.f13, G.f14, G.f15⟩
    · intro d a wr H hk hdep
      refine inv_step (fun K hK => ?_)
      obtain ⟨x2, x3, x4, x9, x10, x11, x12, x13, x14, x15, x16, x17, x18, x19, x20, x21, rfl, H⟩ := H
      have hB := H.bel.size
      have HH := Lib.hid H
      clear H hdep hk
      unfold Oper.wp
      go_simp
      have H := HH.out
      refine hK _ _ ⟨x2, x3, x4, x9, x10, x11, x12, x13, x14, x15, _, x17, x18, x19, x20, x21, rfl, ?_⟩
      exact ⟨H.bel, H.f0, H.f1, H.f2, H.f3, H.f4, H.f5, H.f6, fun _ => rfl, H.f8, H.f9, H.f10, H.f11, H.f12, H.f13, H.f14, H.f15⟩
    · intro d a wr H hk hdep
      refine inv_step (fun K hK => ?_)
      obtain ⟨x2, x3, x4, x9, x10, x11, x12, x13, x14, x15, x16, x17, x18, x19, x20, x21, rfl, H⟩ := H
      have hB := H.bel.size
      have HH := Lib.hid H
      have hsc := blk_cells ((H.bel.block _ hgl).trans HG.out)
      have hsq := Nat.lt_of_lt_of_le hgl hB
      clear H hdep hk
      unfold Oper.wp
      go_simp
      have H := HH.out
      refine hK _ _ ⟨x2, x3, x4, x9, x10, x11, x12, x13, x14, x15, x16, _, x18, x19, x20, x21, rfl, ?_⟩
      exact ⟨H.bel, H.f0, H.f1, H.f2, H.f3, H.f4, H.f5, H.f6, H.f7, fun _ => rfl, H.f9, H.f10, H.f11, H.f12, H.f13, H.f14, H.f15⟩
    · intro d a wr H hk hdep
      refine inv_step (fun K hK => ?_)
      obtain ⟨x2, x3, x4, x9, x10, x11, x12, x13, x14, x15, x16, x17, x18, x19, x20, x21, rfl, H⟩ := H
      have hB := H.bel.size
      have HH := Lib.hid H
      simp [Region.binds] at hdep
      obtain rfl := H.f8 (by simp_all)
      have hsc := blk_cells ((H.bel.block _ hgl).trans HG.out)
      have hsq := Nat.lt_of_lt_of_le hgl hB
      clear H hdep hk
      unfold Oper.wp
      go_simp
      have H := HH.out
      refine hK _ _ ⟨x2, x3, x4, x9, x10, x11, x12, x13, x14, x15, x16, _, _, x19, x20, x21, rfl, ?_⟩
      exact ⟨H.bel, H.f0, H.f1, H.f2, H.f3, H.f4, H.f5, H.f6, H.f7, H.f8, fun _ => rfl, H.f10, H.f11, H.f12, H.f13, H.f14, H.f15⟩
    · intro d a wr H hk hdep
      refine inv_step (fun K hK => ?_)
      obtain ⟨x2, x3, x4, x9, x10, x11, x12, x13, x14, x15, x16, x17, x18, x19, x20, x21, rfl, H⟩ := H
      have hB := H.bel.size
      have HH := Lib.hid H
      have hsc := blk_cells ((H.bel.block _ hgl).trans HG.out)
      have hsq := Nat.lt_of_lt_of_le hgl hB
      clear H hdep hk
      unfold Oper.wp
      go_simp
      have H := HH.out
      refine hK _ _ ⟨x2, x3, x4, x9, x10, x11, x12, x13, x14, x15, x16, x17, x18, _, x20, x21, rfl, ?_⟩
      exact ⟨H.bel, H.f0, H.f1, H.f2, H.f3, H.f4, H.f5, H.f6, H.f7, H.f8, H.f9, fun _ => rfl, H.f11, H.f12, H.f13, H.f14, H.f15⟩
    · intro d a wr H hk hdep
      refine inv_step (fun K hK => ?_)
      obtain ⟨x2, x3, x4, x9, x10, x11, x12, x13, x14, x15, x16, x17, x18, x19, x20, x21, rfl, H⟩ := H
      have hB := H.bel.size
      have HH := Lib.hid H
      simp [Region.binds] at hdep
      obtain rfl := H.f10 (by simp_all)
      have hsc := blk_cells ((H.bel.block _ hgl).trans HG.out)
      have hsq := Nat.lt_of_lt_of_le hgl hB
      clear H hdep hk
      unfold Oper.wp
      go_simp
      have H := HH.out
      refine hK _ _ ⟨x2, x3, x4, x9, x10, x11, x12, x13, x14, x15, x16, x17, x18, _, _, x21, rfl, ?_⟩
      exact ⟨H.bel, H.f0, H.f1, H.f2, H.f3, H.f4, H.f5, H.f6, H.f7, H.f8, H.f9, H.f10, fun _ => rfl, H.f12, H.f13, H.f14, H.f15⟩
    · intro d a wr H hk hdep
      refine inv_step (fun K hK => ?_)
      obtain ⟨x2, x3, x4, x9, x10, x11, x12, x13, x14, x15, x16, x17, x18, x19, x20, x21, rfl, H⟩ := H
      have hB := H.bel.size
      have HH := Lib.hid H
      simp [Region.binds] at hdep
      obtain rfl := H.f7 (by simp_all)
      obtain rfl := H.f9 (by simp_all)
      obtain rfl := H.f11 (by simp_all)
      clear H hdep hk
      unfold Oper.wp
      go_simp
      refine (changed_any (fitJ 25 l0) es2 l2 a5 e2 a2 c5 d2 c2 _ (Sl.keep (fun k hk _ => HH.out.bel.block k hk) HS5.out) HFL.out HFN.out (Sl.keep (fun k hk _ => HH.out.bel.block k hk) G2X.out) M2.out (Sl.keep (fun k hk _ => HH.out.bel.block k hk) H2X.out) K2.out).mono ?_
      rintro en w2 ⟨v, rfl, ho, hb⟩
      have G := HH.out.grow hb hB
      have H := HH.out
      try go_simp
      refine hK _ _ ⟨x2, x3, x4, x9, x10, x11, x12, x13, x14, x15, _, x17, _, x19, _, _, rfl, ?_⟩
      exact ⟨G.bel, G.f0, G.f1, G.f2, G.f3, G.f4, G.f5, G.f6, G.f7, G.f8, G.f9, G.f10, G.f11, fun _ => OWS.own ho, G.f13, G.f14, G.f15⟩
    · intro d a wr H hk hdep
      refine inv_step (fun K hK => ?_)
      obtain ⟨x2, x3, x4, x9, x10, x11, x12, x13, x14, x15, x16, x17, x18, x19, x20, x21, rfl, H⟩ := H
      have hB := H.bel.size
      have HH := Lib.hid H
      simp [Region.binds] at hdep
      obtain rfl := H.f0 (by simp_all)
      clear H hdep hk
      unfold Oper.wp
      go_simp
      have H := HH.out
      refine hK _ _ ⟨_, x3, x4, _, x10, x11, x12, x13, x14, x15, x16, x17, x18, x19, x20, x21, rfl, ?_⟩
      exact ⟨H.bel, H.f0, H.f1, H.f2, H.f3, H.f4, H.f5, H.f6, H.f7, H.f8, H.f9, H.f10, H.f11, H.f12, fun _ => rfl, H.f14, H.f15⟩
    · intro d a wr H hk hdep
      refine inv_step (fun K hK => ?_)
      obtain ⟨x2, x3, x4, x9, x10, x11, x12, x13, x14, x15, x16, x17, x18, x19, x20, x21, rfl, H⟩ := H
      have hB := H.bel.size
      have HH := Lib.hid H
      simp [Region.binds] at hdep
      have ho := H.f6 (by simp_all)
      have HO := Lib.hid ho
      clear H hdep hk ho
      unfold Oper.wp
      go_simp
      have H := HH.out
      refine hK _ _ ⟨x2, _, x4, x9, x10, x11, x12, x13, x14, x15, x16, x17, x18, x19, x20, x21, rfl, ?_⟩
      exact ⟨H.bel, H.f0, H.f1, H.f2, H.f3, H.f4, H.f5, H.f6, H.f7, H.f8, H.f9, H.f10, H.f11, H.f12, H.f13, fun _ => HO.out, H.f15⟩
    · intro d a wr H hk hdep
      refine inv_step (fun K hK => ?_)
      obtain ⟨x2, x3, x4, x9, x10, x11, x12, x13, x14, x15, x16, x17, x18, x19, x20, x21, rfl, H⟩ := H
      have hB := H.bel.size
      have HH := Lib.hid H
      simp [Region.binds] at hdep
      have ho := H.f12 (by simp_all)
      have HO := Lib.hid ho
      clear H hdep hk ho
      unfold Oper.wp
      go_simp
      have H := HH.out
      refine hK _ _ ⟨x2, x3, _, x9, x10, x11, x12, x13, x14, x15, x16, x17, x18, x19, x20, x21, rfl, ?_⟩
      exact ⟨H.bel, H.f0, H.f1, H.f2, H.f3, H.f4, H.f5, H.f6, H.f7, H.f8, H.f9, H.f10, H.f11, H.f12, H.f13, H.f14, fun _ => HO.out⟩
end Go.Proofs.Ytogikjnfmcfbmaa
