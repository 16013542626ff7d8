/- Gates' All: every place that is not open, in order, with its state. -/
import Derived.Test.YtacemlbfifhllaaGreatX45GatesPlay
import Derived.Test.YtacemlbfifhllaaGreatX23GatesPlay
import Derived.Test.YtacemlbfifhllaaGreatX13GatesPlay
import Derived.Test.YtacemlbfifhllaaGreatX35GatesPlay
import Derived.Deep.RegionHeld3
set_option linter.unusedVariables false
set_option linter.unusedSimpArgs false
namespace Go.Proofs.YtacemlbfifhllaaGreat
open Go.RowKit Go.Maps Go.Sort Go.Shelf Go.Deep

theorem place_at {w : World} {F : Nat → Prop} {a : Option Addr} {l : List (Int × Int)} (h : Sl tPlace w F a l) (i : Nat) (hi : i < l.length) :
    ∃ ad, a = some ad ∧ F ad.block ∧ ad.block < w.heap.size ∧ w.cell? (ad.add (i * 2)) = some (.int .i64 l[i].1) ∧ w.cell? ⟨(ad.add (i * 2)).block, (ad.add (i * 2)).off + 1, none⟩ = some (.int .i64 l[i].2) ∧ I64 l[i].1 ∧ I64 l[i].2 := by
  obtain ⟨ad, ces, rfl, hf, hlt, hc, hr⟩ := h i l[i] (List.getElem?_eq_getElem hi)
  obtain ⟨rfl, h1, h2⟩ := place_inv hr
  rw [show tPlace.n = 2 from rfl] at hc
  refine ⟨ad, rfl, hf, hlt, ?_, ?_, h1, h2⟩
  · have := hc 0 _ rfl
    simpa [Addr.add] using this
  · have := hc 1 _ rfl
    rw [Addr.add] at this
    simpa using this
theorem allK_len (l : Gs) (ks : List (Int × Int)) : (allK l ks).length = ks.length := by unfold allK; rw [List.length_map]

set_option maxHeartbeats 8000000 in
set_option maxRecDepth 100000 in
theorem allG_any {w : World} {g : Nat} {r : Option Nat} {l : Gs} (h : GatesAt w g r l) (L : List FG) (hL : l.map (·.1) = L.map zG) (hl : l.length ≤ 1000) (hval : ∀ e p, I64 (stateOf l e p)) :
    Calls Tryz.prog 8 #[.pointer (some ⟨g, 0, none⟩)] w fun e w' => ∃ v, e = .returned v ∧ OwnL tTrio w' w.heap.size v (allK l ((srtG L).map zG)) ∧ Below w.heap.size w w' := by
  have hg := blk_cells h.cell
  have hgl := blk_lt h.cell
  have HG := Lib.hid h
  have hM1 : (r = none ∧ l = []) ∨ ∃ b, r = some b ∧ MapIs mPlace (Value.int .i64) (w.alloc (.cells #[.map r] 25)) b l := h.map.imp id (fun ⟨b, hb, hm⟩ => ⟨b, hb, hm.keep (Below.heap_alloc w _ b hm.lt)⟩)
  have HC := Lib.hid (sortedG_any w.heap.size r l L hL (w.alloc (.cells #[.map r] 25)) (by simp) (by rw [blk_cells (blk_new w (.cells #[.map r] 25)) 0]; rfl) hM1 hl)
  have hok : ∀ k ∈ (srtG L).map zG, I64 k.1 ∧ I64 k.2 := fun k hk => by
    obtain ⟨x, _, rfl⟩ := List.mem_map.1 hk
    exact ⟨small64G _ (Nat.lt_trans x.1.isLt (by decide)), small64G _ x.2.isLt⟩
  have hkl : ((srtG L).map zG).length = L.length := by rw [List.length_map, srtG_len]
  have hll : L.length = l.length := by have := congrArg List.length hL; simpa using this.symm
  obtain ⟨ks, hks⟩ : ∃ ks, (srtG L).map zG = ks := ⟨_, rfl⟩
  rw [hks] at hok hkl ⊢
  have HKS := Lib.hid hks
  have HOKS := Lib.hid hok
  have HVAL := Lib.hid hval
  have hkl2 : ks.length ≤ 1000 := by omega
  clear h hM1 hL hok hks hval
  go_enter Tryz.func8, Tryz.ntmps8
  go_wp2_with fail
  refine ((callsIn_wide (n := 1)).1 (keys_in _ 1 _)).mono ?_
  rintro e w1 ⟨rfl, rfl⟩
  go_wp2_with fail
  refine HC.out.mono ?_
  rintro e w2 ⟨ka0, kc0, rfl, hsk, hb⟩
  have HB6 := Lib.hid (belows_then ((Below.refl w.heap.size w).alloc (Nat.le_refl _) (.cells #[.map r] 25)) (by simp) hb)
  rw [HKS.out] at hsk
  have HSK := Lib.hid hsk
  rw [← hkl]
  have hg2 := blk_cells (HG.out.below HB6.out).cell
  have hgl2 : g < w2.heap.size := Nat.lt_of_lt_of_le hgl HB6.out.size
  clear hb hsk HC hkl hll hl hg
  obtain ⟨i0, hi0, hz0, hz1, hz2⟩ := info_parts infoTri
  go_wp2_with fail
  go_loopw [3, 15] (fun vo vi wr => ∃ (i : Nat) (vx : Value), vx = vo ∧ i ≤ ks.length ∧ vi = .int .i64 i ∧ OwnL tTrio wr w2.heap.size vx (allK l (ks.take i)) ∧ Below w2.heap.size w2 wr) (fun _ vi _ => ks.length - (Go.RowKit.intOf vi).toNat)
  case atStart => exact ⟨0, _, rfl, Nat.zero_le _, rfl, OwnL.nil _ _, Below.refl _ _⟩
  case round =>
    obtain ⟨i, vo, rfl, hi, rfl, ho, hb⟩ := hrel
    have HO := Lib.hid ho
    have HBR := Lib.hid hb
    clear ho hb hg2
    by_cases hlt2 : i < ks.length
    · obtain ⟨ad, rfl, _, hadl, hc0, hc1, _, _⟩ := place_at (Sl.keep (fun k hk _ => HBR.out.block k hk) HSK.out) i hlt2
      have hts := List.take_succ_eq_append_getElem hlt2
      have hok := HOKS.out _ (List.getElem_mem hlt2)
      have hlen : (allK l (ks.take i)).length ≤ 1000 := by rw [allK_len, List.length_take]; omega
      obtain ⟨⟨ka, kb⟩, hk⟩ : ∃ k, ks[i] = k := ⟨_, rfl⟩
      rw [hk] at hc0 hc1 hok hts
      simp only at hc0 hc1 hok
      obtain ⟨v, hv⟩ : ∃ v, stateOf l ka kb = v := ⟨_, rfl⟩
      have HN : Hid (allK l (ks.take (i + 1)) = allK l (ks.take i) ++ [(ka, kb, v)]) := Lib.hid (by rw [hts, ← hv]; simp [allK])
      have HV64 : Hid (I64 v) := Lib.hid (by rw [← hv]; exact HVAL.out _ _)
      have HOK2 := Lib.hid hok
      have HLK : Hid (∀ W : World, Below w.heap.size w W → (Instr.lookup 25 (.map r) (.agg #[.int .i64 ka, .int .i64 kb]) false).run Tryz.prog W = .ok (.int .i64 v) W) := Lib.hid (fun W hW => by have := (HG.out.below hW).lookup hok.1 hok.2; rw [hv] at this; exact this)
      obtain ⟨X, hX⟩ : ∃ X, allK l (ks.take i) = X := ⟨_, rfl⟩
      rw [hX] at HO HN hlen
      have HVP : Hid (some wr.heap.size ≠ vo.ownBlock) := Lib.hid (fun e => by have := (HO.out.lt _ e.symm).2; omega)
      have HVG : Hid (some g ≠ vo.ownBlock) := Lib.hid (fun e => by have := (HO.out.lt _ e.symm).1; omega)
      clear hts hok hv hX hk
      go_wp2_with fail
      refine abs_world (S := fun wx => wx.heap[wr.heap.size]? = some (.cells #[.int .i64 ka, .int .i64 kb] 62 (0, 0)) ∧ Below w2.heap.size w2 wx ∧ OwnL tTrio wx w2.heap.size vo X) ?_ ⟨blk_new wr _, HBR.out.alloc HBR.out.size _, HO.out.alloc _⟩
      rintro wx ⟨hpx, hbx, hox⟩
      have HPX := Lib.hid hpx
      have HBX := Lib.hid hbx
      have HOX := Lib.hid hox
      have HBW := Lib.hid (belows_then HB6.out HB6.out.size hbx)
      have HGX := Lib.hid (HG.out.below HBW.out).cell
      have hpl := blk_lt hpx
      have hglx := blk_lt HGX.out
      clear hpx hbx hox HO HBR hc0 hc1 hadl
      have hlkd := HLK.out wx.drew HBW.out.drew
      have hlkx := HLK.out wx HBW.out
      have hbn : (wx.alloc (.cells #[.int .i64 ka, .int .i64 kb, .int .i64 v] 54)).drew.heap[wx.heap.size]? = some (.cells #[.int .i64 ka, .int .i64 kb, .int .i64 v] 54 (0, 0)) := blk_new wx (.cells #[.int .i64 ka, .int .i64 kb, .int .i64 v] 54)
      have HOA : Hid (OwnL tTrio ((wx.alloc (.cells #[.int .i64 ka, .int .i64 kb, .int .i64 v] 54)).drew) w2.heap.size vo X) := Lib.hid ((HOX.out.alloc (.cells #[.int .i64 ka, .int .i64 kb, .int .i64 v] 54)).keep (Nat.le_refl _) (fun _ _ => rfl))
      have HBA := Lib.hid ((HBX.out.alloc HBX.out.size (.cells #[.int .i64 ka, .int .i64 kb, .int .i64 v] 54)).drew)
      have HSP : Hid (Sl tTrio ((wx.alloc (.cells #[.int .i64 ka, .int .i64 kb, .int .i64 v] 54)).drew) (fun kk => some kk ≠ vo.ownBlock ∧ kk < ((wx.alloc (.cells #[.int .i64 ka, .int .i64 kb, .int .i64 v] 54)).drew).heap.size) (some ⟨wx.heap.size, 0, none⟩) [((ka, kb, v) : Int × Int × Int)]) := Lib.hid (sl_one3 (x := (ka, kb, v)) hbn ⟨fun e => by have := (HOX.out.lt _ e.symm).2; exact absurd this (Nat.lt_irrefl _), blk_lt hbn⟩ (trio_mk _ HOK2.out.1 HOK2.out.2 HV64.out))
      have h63 : X.length + [((ka, kb, v) : Int × Int × Int)].length ≤ maxLen := by simp only [List.length_cons, List.length_nil]; unfold maxLen; omega
      have hby : (X.length + [((ka, kb, v) : Int × Int × Int)].length) * 24 ≤ 140737488355328 := by simp only [List.length_cons, List.length_nil]; omega
      have HCE : Hid (∀ W : World, (W.heap[wr.heap.size]? = wx.heap[wr.heap.size]? ∧ W.heap[g]? = wx.heap[g]?) → (W.cell? ⟨wr.heap.size, 0, none⟩ = some (.int .i64 ka) ∧ W.cell? ⟨wr.heap.size, 1, none⟩ = some (.int .i64 kb) ∧ W.cell? ⟨g, 0, none⟩ = some (.map r))) := Lib.hid (fun W h => ⟨by rw [blk_cells (h.1.trans HPX.out)]; rfl, by rw [blk_cells (h.1.trans HPX.out)]; rfl, by rw [blk_cells (h.2.trans HGX.out)]; rfl⟩)
      have HKD : Hid (wx.drew.heap[wr.heap.size]? = wx.heap[wr.heap.size]? ∧ wx.drew.heap[g]? = wx.heap[g]?) := Lib.hid ⟨rfl, rfl⟩
      have HKA : Hid ((wx.alloc (.cells #[.int .i64 ka, .int .i64 kb, .int .i64 v] 54)).drew.heap[wr.heap.size]? = wx.heap[wr.heap.size]? ∧ (wx.alloc (.cells #[.int .i64 ka, .int .i64 kb, .int .i64 v] 54)).drew.heap[g]? = wx.heap[g]?) := Lib.hid ⟨Below.heap_alloc wx _ _ hpl, Below.heap_alloc wx _ _ hglx⟩
      clear hbn
      go_wp2_with fail
      go_region_held3 (fun w' => w'.cell? ⟨wr.heap.size, 0, none⟩ = some (.int .i64 ka) ∧ w'.cell? ⟨wr.heap.size, 1, none⟩ = some (.int .i64 kb) ∧ w'.cell? ⟨g, 0, none⟩ = some (.map r)) (first | exact HCE.out _ HKD.out | exact HCE.out _ HKA.out | exact HCE.out _ HK9.out) ((refine step_app (T := tTrio) rfl (.tmp 19) (.tmp 31) 51 rfl i0 (.agg #[.int .i64 0, .int .i64 0, .int .i64 0]) 24 Tryz.underlying51 hi0 hz0 hz1 hz2 rfl (by decide) trio_one w2.heap.size vo X (by simp [Act.eval, Act.put]) HOA.out ⟨wx.heap.size, 0, none⟩ 1 [((ka, kb, v) : Int × Int × Int)] (by simp [Act.eval, Act.put]) HSP.out h63 hby HBA.out.size ?_; intro v9 w9 hown hg hat; have HO9 := Lib.hid hown; have HB9 := Lib.hid (Below.grown HBA.out hg HBA.out.size (fun k e => (HOA.out.lt k e).1)); have HK9 : Hid (w9.heap[wr.heap.size]? = wx.heap[wr.heap.size]? ∧ w9.heap[g]? = wx.heap[g]?) := Lib.hid ⟨(hg.block _ (by show wr.heap.size < (wx.alloc (.cells #[.int .i64 ka, .int .i64 kb, .int .i64 v] 54)).heap.size; simp; omega) HVP.out).trans HKA.out.1, (hg.block _ (by show g < (wx.alloc (.cells #[.int .i64 ka, .int .i64 kb, .int .i64 v] 54)).heap.size; simp; omega) HVG.out).trans HKA.out.2⟩; clear hown hg hat))
      all_goals
        go_wp2_with fail
        go_roundw
        case rel => exact ⟨i + 1, _, rfl, by omega, by go_num, by rw [HN.out]; exact HO9.out, HB9.out⟩
        case measure => simp [Go.RowKit.intOf]; omega
    · have HKA : Hid (ks.take i = ks) := Lib.hid (List.take_of_length_le (by omega))
      have ho := HO.out
      rw [HKA.out] at ho
      have HOF := Lib.hid (ho.mono HB6.out.size)
      have HBF := Lib.hid (belows_then HB6.out HB6.out.size HBR.out)
      clear ho
      go_wp2_with fail
      go_ret
      exact ⟨_, rfl, HOF.out, HBF.out⟩
end Go.Proofs.YtacemlbfifhllaaGreat
