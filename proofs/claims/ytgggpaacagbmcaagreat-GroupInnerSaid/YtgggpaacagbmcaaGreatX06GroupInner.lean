/- The document's Put, walked. -/
import Derived.Test.YtgggpaacagbmcaaGreatX05GroupInner
import Derived.Deep.RegionWith
set_option linter.unusedVariables false
set_option linter.unusedSimpArgs false
namespace Go.Proofs.YtgggpaacagbmcaaGreat
open Go.RowKit Go.Maps

theorem sl_appJ {wx : World} {x : Jn} {la : Option Addr} {lc : Nat} {base B : Nat} {vo : Value} {O : List Jn} (hr : tJn.R wx (fun k => k < B) (jcs x la lc) x) (ho : OwnL tJn wx base vo O) (n : Nat) (hB : B ≤ base := by omega) :
    Sl tJn ((wx.drewN n).alloc (.cells #[.int .i64 x.id, .int .i64 x.en, .int .i64 x.pe, .string x.ref, .slice la x.lines.length lc, .bool x.void] 81)) (fun k => some k ≠ vo.ownBlock ∧ k < ((wx.drewN n).alloc (.cells #[.int .i64 x.id, .int .i64 x.en, .int .i64 x.pe, .string x.ref, .slice la x.lines.length lc, .bool x.void] 81)).heap.size)
      (some ⟨wx.heap.size, 0, none⟩) [x] := by
  have hlt := ho.lt
  refine sl_oneJ (a := la) (cap := lc) (blk_new (wx.drewN n) _) ⟨fun e => by have := hlt _ e.symm; omega, by simp⟩ ?_
  refine tJn.mono (fun k hk hf => ⟨fun e => ?_, hk⟩) (tJn.keep (w := wx.drewN n) (fun k hk _ => Below.heap_alloc (wx.drewN n) _ k hk) (show tJn.R (wx.drewN n) (fun k => k < B) (jcs x la lc) x from tJn.keep (fun k hk _ => rfl) hr))
  have := hlt _ e.symm
  have hf' : k < B := hf
  omega

theorem sl_appC {w2 : World} {x : Jn} {la : Option Addr} {lc : Nat} {base B : Nat} {vo : Value} {O : List Jn} (hr : tJn.R w2 (fun k => B ≤ k ∧ k < w2.heap.size) (jcs x la lc) x) (ho : OwnL tJn w2 base vo O) (hB : ∀ k, vo.ownBlock = some k → k < B) :
    Sl tJn (w2.alloc (.cells #[.int .i64 x.id, .int .i64 x.en, .int .i64 x.pe, .string x.ref, .slice la x.lines.length lc, .bool x.void] 81)) (fun k => some k ≠ vo.ownBlock ∧ k < (w2.alloc (.cells #[.int .i64 x.id, .int .i64 x.en, .int .i64 x.pe, .string x.ref, .slice la x.lines.length lc, .bool x.void] 81)).heap.size)
      (some ⟨w2.heap.size, 0, none⟩) [x] := by
  have hlt := ho.lt
  refine sl_oneJ (a := la) (cap := lc) (blk_new w2 _) ⟨fun e => by have := hlt _ e.symm; omega, by simp⟩ ?_
  refine tJn.mono (fun k hk hf => ⟨fun e => ?_, hk⟩) (tJn.keep (fun k hk _ => Below.heap_alloc w2 _ k hk) hr)
  have := hB _ e.symm
  have hf' := hf.1
  omega

set_option maxHeartbeats 4000000 in
set_option maxRecDepth 100000 in
theorem rput_any (l : List Jn) (a : Option Addr) (cap : Nat) (j : Jn) (ja : Option Addr) (jc : Nat) (w : World) {F G : Nat → Prop} (hs : Sl tJn w F a l) (hl : l.length ≤ 100000) (hj : tJn.R w G (jcs j ja jc) j) (hne : j.lines ≠ []) :
    Calls Tryz.prog 86 #[.slice a l.length cap, jnv j ja jc] w fun e w' => ∃ v, e = .returned v ∧ OwnL tJn w' w.heap.size v (putJ l j) ∧ Below w.heap.size w w' := by
  have HS : Hid (Sl tJn w (fun k => k < w.heap.size) a l) := Sl.mono (fun k hk _ => hk) hs
  have HJ := Lib.hid hj
  have HNE := Lib.hid hne
  clear hs hj hne
  obtain ⟨i0, hi, hz0, hz1, hz2⟩ := info_parts infoJ
  have HB := Lib.hid ((Below.refl w.heap.size w).alloc (Nat.le_refl _) (.cells #[.int .i64 j.id, .int .i64 j.en, .int .i64 j.pe, .string j.ref, .slice ja j.lines.length jc, .bool j.void] 81))
  have HZ := Lib.hid (blk_new w (.cells #[.int .i64 j.id, .int .i64 j.en, .int .i64 j.pe, .string j.ref, .slice ja j.lines.length jc, .bool j.void] 81))
  go_enter Tryz.func86, Tryz.ntmps86
  go_wp2_with fail
  go_loopw [5, 6, 7] (fun vo vd vi wr => ∃ (n : Nat) (vx : Value), vx = vo ∧ n ≤ l.length ∧ vi = .int .i64 n ∧ vd = .bool (putS j (l.take n)).2 ∧ OwnL tJn wr (w.heap.size + 1) vx (putS j (l.take n)).1 ∧ Below w.heap.size w wr ∧ wr.heap[w.heap.size]? = some (.cells #[.int .i64 j.id, .int .i64 j.en, .int .i64 j.pe, .string j.ref, .slice ja j.lines.length jc, .bool j.void] 81 (0, 0))) (fun _ _ vi _ => l.length - (Go.RowKit.intOf vi).toNat)
  case atStart => exact ⟨0, _, rfl, Nat.zero_le _, rfl, rfl, OwnL.nil _ _, HB.out, HZ.out⟩
  case round =>
    obtain ⟨n, vo, rfl, hn, rfl, rfl, ho, hb, hjb⟩ := hrel
    have HO := Lib.hid ho
    have HB1 := Lib.hid hb
    have HJ1 := Lib.hid hjb
    clear ho hb hjb
    obtain ⟨O, d, hst⟩ : ∃ O d, putS j (l.take n) = (O, d) := ⟨_, _, rfl⟩
    have HST := Lib.hid hst
    rw [hst] at HO ⊢
    clear hst
    simp only at HO ⊢
    by_cases hlt : n < l.length
    · have hcs : d = true ∨ d = false ∧ (j.id ≤ l[n].id ∨ l[n].id < j.id) := by
        cases d
        · right; refine ⟨rfl, ?_⟩; omega
        · left; rfl
      rcases hcs with rfl | ⟨rfl, hge | hge⟩
      · have hd : True := trivial
        have hz0' := blk_cells HJ1.out
        go_wp2_with fail
        go_quiet (fail)
        go_wp2_with fail
        refine abs_world (S := fun wx => OwnL tJn wx (w.heap.size + 1) vo (O) ∧ Below w.heap.size w wx ∧ wx.heap[w.heap.size]? = some (.cells #[.int .i64 j.id, .int .i64 j.en, .int .i64 j.pe, .string j.ref, .slice ja j.lines.length jc, .bool j.void] 81 (0, 0))) ?_ ⟨OwnL.keep HO.out (Nat.le_refl _) (fun k hk => rfl), below_drewN HB1.out _, blk_drew HJ1.out _⟩
        clear hz0'
        rintro wx ⟨hox, hbx, hjx⟩
        have HOX := Lib.hid hox
        have HBX := Lib.hid hbx
        have HJX := Lib.hid hjx
        clear hox hbx hjx
        obtain ⟨ad, la, lc, hade, _, hadl, hc0, hc1, hc2, hc3, hc4, hc5, hr⟩ := jn_at (Sl.keep (fun k hk _ => HBX.out.block k hk) HS.out) n hlt
        have HRX := Lib.hid hr
        clear hr
        first | subst hade | (injection hade with hade; subst hade)
        have hz := blk_cells HJX.out
        have hzl := blk_lt HJX.out
        cases hv : (l[n].id != j.id)
        · have HN : Hid (putS j (l.take (n + 1)) = (O, true)) := by show _ = _; rw [putS_succ j l n hlt]; simp [putStep, HST.out, hd, hv]
          go_wp2_with fail
          go_quiet (fail)
          go_wp2_with fail
          go_roundw
          case rel => exact ⟨n + 1, _, rfl, by omega, by go_num, by rw [HN.out], by rw [HN.out]; exact OwnL.keep HOX.out (Nat.le_refl _) (fun k hk => rfl), below_drewN HBX.out _, blk_drew HJX.out _⟩
          case measure => simp [Go.RowKit.intOf]; omega
        · have HN : Hid (putS j (l.take (n + 1)) = (O ++ [l[n]], true)) := by show _ = _; rw [putS_succ j l n hlt]; simp [putStep, HST.out, hd, hv]
          have HLEN : Hid ((O).length + [l[n]].length ≤ 100001) := by show _ ≤ _; have := putS_take_len j l (n + 1) (by omega); rw [HN.out] at this; simp at this; simp; omega
          go_wp2_with fail
          go_quiet (fail)
          go_wp2_with (first
            | (at_builtin; refine wp_app (T := tJn) rfl _ _ 23 rfl i0 (.agg #[.int .i64 0, .int .i64 0, .int .i64 0, .string ⟨#[]⟩, .slice none 0 0, .bool false]) 72 Tryz.underlying23 hi hz0 hz1 hz2 rfl (by decide) jn_one (w.heap.size + 1) vo (O) rfl (OwnL.alloc (OwnL.keep HOX.out (Nat.le_refl _) (fun k hk => rfl)) _) ⟨wx.heap.size, 0, none⟩ 1 [l[n]] rfl (sl_appJ HRX.out HOX.out _) (by have := HLEN.out; unfold maxLen; omega) (by have := HLEN.out; omega) (by have := HBX.out.size; simp; omega) ?_; intro v2 w3 hown hg hnil hat
               have HO3 := Lib.hid hown
               have HB3 := Lib.hid (Below.grown (Below.alloc (below_drewN HBX.out _) HBX.out.size _) hg (Nat.le_trans HBX.out.size (by simp)) (fun k e => by have := HOX.out.lt k e; omega))
               have HJ3 := Lib.hid ((hg.block w.heap.size (by have := blk_lt HJX.out; simp; omega) (fun e => by have := HOX.out.lt _ e.symm; omega)).trans (blk_alloc (blk_drew HJX.out _) _))
               clear hown hg hnil hat
               obtain ⟨a3, c3, rfl, _⟩ := HO3.out.slice))
          go_roundw
          case rel => exact ⟨n + 1, _, rfl, by omega, by go_num, by rw [HN.out], by rw [HN.out]; simpa using HO3.out, HB3.out, HJ3.out⟩
          case measure => simp [Go.RowKit.intOf]; omega
      · have hd : decide (j.id ≤ l[n].id) = true := by simpa using hge
        have hz0' := blk_cells HJ1.out
        obtain ⟨ad, la, lc, rfl, _, hadl, hc0, hc1, hc2, hc3, hc4, hc5, hr⟩ := jn_at (Sl.keep (fun k hk _ => HB1.out.block k hk) HS.out) n hlt
        clear hr hc1 hc2 hc3 hc4 hc5
        have hzl0 := blk_lt HJ1.out
        go_wp2_with fail
        go_quiet (fail)
        go_wp2_with fail
        refine (rcopy_any j ja jc _ (tJn.keep (fun k hk _ => (below_drewN HB1.out _).block k hk) HJ.out) HNE.out).mono ?_
        rintro e w2 ⟨ca, cc, rfl, hb, hr⟩
        have HRC := Lib.hid hr
        have HOC : Hid (OwnL tJn w2 (w.heap.size + 1) vo O) := OwnL.below (w := wr.drewN _) (OwnL.keep HO.out (Nat.le_refl _) (fun k hk => rfl)) hb
        have HBC := Lib.hid (belows_then (below_drewN HB1.out _) HB1.out.size hb)
        have HJC := Lib.hid (blk_below (blk_drew HJ1.out _) hb)
        have HLO := Lib.hid HO.out.lt
        have HLEN : Hid (O.length + [j].length ≤ 100001 + 1) := by show _ ≤ _; have := putS_take_len j l n (by omega); rw [HST.out] at this; simp at this; simp; omega
        clear hb hr hc0 hzl0 hadl hz0'
        go_wp2_with (first
          | (at_builtin; refine wp_app (T := tJn) rfl _ _ 23 rfl i0 (.agg #[.int .i64 0, .int .i64 0, .int .i64 0, .string ⟨#[]⟩, .slice none 0 0, .bool false]) 72 Tryz.underlying23 hi hz0 hz1 hz2 rfl (by decide) jn_one (w.heap.size + 1) vo O rfl (OwnL.alloc HOC.out _) ⟨w2.heap.size, 0, none⟩ 1 [j] rfl (sl_appC HRC.out HOC.out (fun k hk => (HLO.out k hk).2)) (by have := HLEN.out; unfold maxLen; omega) (by have := HLEN.out; omega) (by have := HBC.out.size; simp; omega) ?_; intro v2 w3 hown hg hnil hat
             have HO3 := Lib.hid hown
             have HB3 := Lib.hid (Below.grown (Below.alloc HBC.out HBC.out.size _) hg (Nat.le_trans HBC.out.size (by simp)) (fun k e => by have := HOC.out.lt k e; omega))
             have HJ3 := Lib.hid ((hg.block w.heap.size (by have := blk_lt HJC.out; simp; omega) (fun e => by have := HOC.out.lt _ e.symm; omega)).trans (blk_alloc HJC.out _))
             clear hown hg hnil hat
             obtain ⟨a3, c3, rfl, _⟩ := HO3.out.slice))
        have hox3 : OwnL tJn w3 (w.heap.size + 1) (.slice a3 (O.length + 1) c3) (O ++ [j]) := by simpa using HO3.out
        refine abs_world (S := fun wx => OwnL tJn wx (w.heap.size + 1) (.slice a3 (O.length + 1) c3) (O ++ [j]) ∧ Below w.heap.size w wx ∧ wx.heap[w.heap.size]? = some (.cells #[.int .i64 j.id, .int .i64 j.en, .int .i64 j.pe, .string j.ref, .slice ja j.lines.length jc, .bool j.void] 81 (0, 0))) ?_ ⟨hox3, HB3.out, HJ3.out⟩
        clear HO3 HB3 HJ3 hox3 HLEN
        rintro wx ⟨hox, hbx, hjx⟩
        have HOX := Lib.hid hox
        have HBX := Lib.hid hbx
        have HJX := Lib.hid hjx
        clear hox hbx hjx
        obtain ⟨ad, la, lc, hade, _, hadl, hc0, hc1, hc2, hc3, hc4, hc5, hr⟩ := jn_at (Sl.keep (fun k hk _ => HBX.out.block k hk) HS.out) n hlt
        have HRX := Lib.hid hr
        clear hr
        first | subst hade | (injection hade with hade; subst hade)
        have hz := blk_cells HJX.out
        have hzl := blk_lt HJX.out
        cases hv : (l[n].id != j.id)
        · have HN : Hid (putS j (l.take (n + 1)) = ((O ++ [j]), true)) := by show _ = _; rw [putS_succ j l n hlt]; simp [putStep, HST.out, hd, hv]
          go_wp2_with fail
          go_quiet (fail)
          go_wp2_with fail
          go_roundw
          case rel => exact ⟨n + 1, _, rfl, by omega, by go_num, by rw [HN.out], by rw [HN.out]; exact OwnL.keep HOX.out (Nat.le_refl _) (fun k hk => rfl), below_drewN HBX.out _, blk_drew HJX.out _⟩
          case measure => simp [Go.RowKit.intOf]; omega
        · have HN : Hid (putS j (l.take (n + 1)) = ((O ++ [j]) ++ [l[n]], true)) := by show _ = _; rw [putS_succ j l n hlt]; simp [putStep, HST.out, hd, hv]
          have HLEN : Hid (((O ++ [j])).length + [l[n]].length ≤ 100001) := by show _ ≤ _; have := putS_take_len j l (n + 1) (by omega); rw [HN.out] at this; simp at this; simp; omega
          go_wp2_with fail
          go_quiet (fail)
          go_wp2_with (first
            | (at_builtin; refine wp_app (T := tJn) rfl _ _ 23 rfl i0 (.agg #[.int .i64 0, .int .i64 0, .int .i64 0, .string ⟨#[]⟩, .slice none 0 0, .bool false]) 72 Tryz.underlying23 hi hz0 hz1 hz2 rfl (by decide) jn_one (w.heap.size + 1) (.slice a3 (O.length + 1) c3) ((O ++ [j])) rfl (OwnL.alloc (OwnL.keep HOX.out (Nat.le_refl _) (fun k hk => rfl)) _) ⟨wx.heap.size, 0, none⟩ 1 [l[n]] rfl (sl_appJ HRX.out HOX.out _) (by have := HLEN.out; unfold maxLen; omega) (by have := HLEN.out; omega) (by have := HBX.out.size; simp; omega) ?_; intro v2 w3 hown hg hnil hat
               have HO3 := Lib.hid hown
               have HB3 := Lib.hid (Below.grown (Below.alloc (below_drewN HBX.out _) HBX.out.size _) hg (Nat.le_trans HBX.out.size (by simp)) (fun k e => by have := HOX.out.lt k e; omega))
               have HJ3 := Lib.hid ((hg.block w.heap.size (by have := blk_lt HJX.out; simp; omega) (fun e => by have := HOX.out.lt _ e.symm; omega)).trans (blk_alloc (blk_drew HJX.out _) _))
               clear hown hg hnil hat
               obtain ⟨a3, c3, rfl, _⟩ := HO3.out.slice))
          go_roundw
          case rel => exact ⟨n + 1, _, rfl, by omega, by go_num, by rw [HN.out], by rw [HN.out]; simpa using HO3.out, HB3.out, HJ3.out⟩
          case measure => simp [Go.RowKit.intOf]; omega
      · have hd : decide (j.id ≤ l[n].id) = false := by simp; omega
        have hz0' := blk_cells HJ1.out
        obtain ⟨ad, la, lc, rfl, _, hadl, hc0, hc1, hc2, hc3, hc4, hc5, hr⟩ := jn_at (Sl.keep (fun k hk _ => HB1.out.block k hk) HS.out) n hlt
        clear hr hc1 hc2 hc3 hc4 hc5
        have hzl0 := blk_lt HJ1.out
        go_wp2_with fail
        go_quiet (fail)
        go_wp2_with fail
        clear hc0 hzl0 hadl
        refine abs_world (S := fun wx => OwnL tJn wx (w.heap.size + 1) vo (O) ∧ Below w.heap.size w wx ∧ wx.heap[w.heap.size]? = some (.cells #[.int .i64 j.id, .int .i64 j.en, .int .i64 j.pe, .string j.ref, .slice ja j.lines.length jc, .bool j.void] 81 (0, 0))) ?_ ⟨OwnL.keep HO.out (Nat.le_refl _) (fun k hk => rfl), below_drewN HB1.out _, blk_drew HJ1.out _⟩
        clear hz0'
        rintro wx ⟨hox, hbx, hjx⟩
        have HOX := Lib.hid hox
        have HBX := Lib.hid hbx
        have HJX := Lib.hid hjx
        clear hox hbx hjx
        obtain ⟨ad, la, lc, hade, _, hadl, hc0, hc1, hc2, hc3, hc4, hc5, hr⟩ := jn_at (Sl.keep (fun k hk _ => HBX.out.block k hk) HS.out) n hlt
        have HRX := Lib.hid hr
        clear hr
        first | subst hade | (injection hade with hade; subst hade)
        have hz := blk_cells HJX.out
        have hzl := blk_lt HJX.out
        cases hv : (l[n].id != j.id)
        · have HN : Hid (putS j (l.take (n + 1)) = (O, false)) := by show _ = _; rw [putS_succ j l n hlt]; simp [putStep, HST.out, hd, hv]
          go_wp2_with fail
          go_quiet (fail)
          go_wp2_with fail
          go_roundw
          case rel => exact ⟨n + 1, _, rfl, by omega, by go_num, by rw [HN.out], by rw [HN.out]; exact OwnL.keep HOX.out (Nat.le_refl _) (fun k hk => rfl), below_drewN HBX.out _, blk_drew HJX.out _⟩
          case measure => simp [Go.RowKit.intOf]; omega
        · have HN : Hid (putS j (l.take (n + 1)) = (O ++ [l[n]], false)) := by show _ = _; rw [putS_succ j l n hlt]; simp [putStep, HST.out, hd, hv]
          have HLEN : Hid ((O).length + [l[n]].length ≤ 100001) := by show _ ≤ _; have := putS_take_len j l (n + 1) (by omega); rw [HN.out] at this; simp at this; simp; omega
          go_wp2_with fail
          go_quiet (fail)
          go_wp2_with (first
            | (at_builtin; refine wp_app (T := tJn) rfl _ _ 23 rfl i0 (.agg #[.int .i64 0, .int .i64 0, .int .i64 0, .string ⟨#[]⟩, .slice none 0 0, .bool false]) 72 Tryz.underlying23 hi hz0 hz1 hz2 rfl (by decide) jn_one (w.heap.size + 1) vo (O) rfl (OwnL.alloc (OwnL.keep HOX.out (Nat.le_refl _) (fun k hk => rfl)) _) ⟨wx.heap.size, 0, none⟩ 1 [l[n]] rfl (sl_appJ HRX.out HOX.out _) (by have := HLEN.out; unfold maxLen; omega) (by have := HLEN.out; omega) (by have := HBX.out.size; simp; omega) ?_; intro v2 w3 hown hg hnil hat
               have HO3 := Lib.hid hown
               have HB3 := Lib.hid (Below.grown (Below.alloc (below_drewN HBX.out _) HBX.out.size _) hg (Nat.le_trans HBX.out.size (by simp)) (fun k e => by have := HOX.out.lt k e; omega))
               have HJ3 := Lib.hid ((hg.block w.heap.size (by have := blk_lt HJX.out; simp; omega) (fun e => by have := HOX.out.lt _ e.symm; omega)).trans (blk_alloc (blk_drew HJX.out _) _))
               clear hown hg hnil hat
               obtain ⟨a3, c3, rfl, _⟩ := HO3.out.slice))
          go_roundw
          case rel => exact ⟨n + 1, _, rfl, by omega, by go_num, by rw [HN.out], by rw [HN.out]; simpa using HO3.out, HB3.out, HJ3.out⟩
          case measure => simp [Go.RowKit.intOf]; omega
    · have HST2 : Hid (putS j l = (O, d)) := by show _ = _; rw [← HST.out, take_all hn hlt]
      have hz0' := blk_cells HJ1.out
      have hzl0 := blk_lt HJ1.out
      cases d
      · go_wp2_with fail
        refine (rcopy_any j ja jc _ (tJn.keep (fun k hk _ => HB1.out.block k hk) HJ.out) HNE.out).mono ?_
        rintro e w2 ⟨ca, cc, rfl, hb, hr⟩
        have HRC := Lib.hid hr
        have HOC : Hid (OwnL tJn w2 (w.heap.size + 1) vo O) := OwnL.below HO.out hb
        have HBC := Lib.hid (belows_then HB1.out HB1.out.size hb)
        have HLO := Lib.hid HO.out.lt
        have HLEN : Hid (O.length + [j].length ≤ 100001 + 1) := by show _ ≤ _; have := putS_take_len j l n hn; rw [HST.out] at this; simp at this; simp; omega
        clear hb hr hzl0 hz0'
        go_wp2_with (first
          | (at_builtin; refine wp_app (T := tJn) rfl _ _ 23 rfl i0 (.agg #[.int .i64 0, .int .i64 0, .int .i64 0, .string ⟨#[]⟩, .slice none 0 0, .bool false]) 72 Tryz.underlying23 hi hz0 hz1 hz2 rfl (by decide) jn_one (w.heap.size + 1) vo O rfl (OwnL.alloc HOC.out _) ⟨w2.heap.size, 0, none⟩ 1 [j] rfl (sl_appC HRC.out HOC.out (fun k hk => (HLO.out k hk).2)) (by have := HLEN.out; unfold maxLen; omega) (by have := HLEN.out; omega) (by have := HBC.out.size; simp; omega) ?_; intro v2 w3 hown hg hnil hat
             have HO3 := Lib.hid hown
             have HB3 := Lib.hid (Below.grown (Below.alloc HBC.out HBC.out.size _) hg (Nat.le_trans HBC.out.size (by simp)) (fun k e => by have := HOC.out.lt k e; omega))
             clear hown hg hnil hat
             obtain ⟨a3, c3, rfl, _⟩ := HO3.out.slice))
        go_ret
        refine ⟨_, rfl, ?_, HB3.out⟩
        have e1 : putJ l j = O ++ [j] := by simp [putJ, HST2.out]
        rw [e1]
        simpa using HO3.out.mono (by omega)
      · go_wp2_with fail
        go_ret
        refine ⟨_, rfl, ?_, HB1.out⟩
        have e1 : putJ l j = O := by simp [putJ, HST2.out]
        rw [e1]
        exact HO.out.mono (by omega)
end Go.Proofs.YtgggpaacagbmcaaGreat


/- law6.Fit: the journals that can be posted one behind the other. -/
set_option linter.unusedVariables false
set_option linter.unusedSimpArgs false
namespace Go.Proofs.YtgggpaacagbmcaaGreat
open Go.RowKit Go.Maps

def fitStep (m : Nat) (O : List Jn) (x : Jn) : List Jn := if O.length < m then (if decide ((x.lines.length : Int) ≤ 8) && postJ O x == 0 then putJ O x else O) else O
def fitJ (m : Nat) (l : List Jn) : List Jn := l.foldl (fitStep m) []
theorem fitJ_succ (m : Nat) (l : List Jn) (n : Nat) (hn : n < l.length) : fitJ m (l.take (n + 1)) = fitStep m (fitJ m (l.take n)) l[n] := by
  unfold fitJ
  rw [List.take_succ_eq_append_getElem hn, List.foldl_append]
  rfl
theorem fit_stop (m : Nat) (O : List Jn) (h : ¬ O.length < m) : ∀ (l : List Jn), l.foldl (fitStep m) O = O
  | [] => rfl
  | x :: r => by
    rw [List.foldl_cons]
    have : fitStep m O x = O := by simp [fitStep, h]
    rw [this]
    exact fit_stop m O h r
theorem fitJ_full (m : Nat) (l : List Jn) (n : Nat) (h : ¬ (fitJ m (l.take n)).length < m) : fitJ m l = fitJ m (l.take n) := by
  have : fitJ m l = (l.drop n).foldl (fitStep m) (fitJ m (l.take n)) := by
    unfold fitJ
    rw [← List.foldl_append, List.take_append_drop]
  rw [this, fit_stop m _ h]
theorem putJ_len (l : List Jn) (j : Jn) : (putJ l j).length ≤ l.length + 1 := by
  have := putS_len j l
  unfold putJ
  split
  · rename_i h; rw [h] at this; simpa using this
  · rename_i h; simp [h] at this; simp; omega
theorem fitJ_len (m : Nat) : ∀ (l : List Jn) (O : List Jn), O.length ≤ m → (l.foldl (fitStep m) O).length ≤ m
  | [], O, h => h
  | x :: r, O, h => by
    rw [List.foldl_cons]
    refine fitJ_len m r _ ?_
    unfold fitStep
    split
    · split
      · have := putJ_len O x; omega
      · exact h
    · exact h
theorem post_ok_lines {O : List Jn} {x : Jn} (h : postJ O x = 0) : x.lines ≠ [] := by
  have h1 : chk x = 0 := by
    rcases post_cases O x with ⟨h1, h2⟩ | ⟨h1, _⟩
    · rw [h] at h2; exact h2.symm
    · simpa using h1
  intro he
  have : frontBad x = true := by simp [frontBad, he]
  simp [chk, this] at h1

theorem rpost_is (l : List Jn) (a : Option Addr) (cap : Nat) (j : Jn) (ja : Option Addr) (jc : Nat) (w : World) {F G : Nat → Prop} (hs : Sl tJn w F a l) (hl : l.length ≤ maxLen) (hj : Sl tLn w G ja j.lines) {p : Int} (h : postJ l j = p) :
    Calls Tryz.prog 85 #[.slice a l.length cap, jnv j ja jc] w fun e w' => e = .returned (.int .i64 p) ∧ Below w.heap.size w w' := by
  have := rpost_any l a cap j ja jc w hs hl hj
  rwa [h] at this

set_option maxHeartbeats 4000000 in
set_option maxRecDepth 100000 in
theorem fit_any (l : List Jn) (a : Option Addr) (cap : Nat) (m : Nat) (w : World) {F : Nat → Prop} (hs : Sl tJn w F a l) (hl : l.length ≤ maxLen) (hm : m ≤ 10000) :
    Calls Tryz.prog 24 #[.slice a l.length cap, .int .i64 m] w fun e w' => ∃ v, e = .returned v ∧ OwnL tJn w' w.heap.size v (fitJ m l) ∧ Below w.heap.size w w' := by
  have HS := Lib.hid hs
  have hl' : l.length ≤ 9223372036854775807 := by unfold maxLen at hl; omega
  clear hs hl
  go_enter Tryz.func24, Tryz.ntmps24
  go_wp2_with fail
  go_loopw [5, 6] (fun vo vi wr => ∃ (n : Nat) (vx : Value), vx = vo ∧ n ≤ l.length ∧ vi = .int .i64 n ∧ OwnL tJn wr w.heap.size vx (fitJ m (l.take n)) ∧ Below w.heap.size w wr) (fun _ vi _ => l.length - (Go.RowKit.intOf vi).toNat)
  case atStart => exact ⟨0, _, rfl, Nat.zero_le _, rfl, OwnL.nil _ _, Below.refl _ _⟩
  case round =>
    obtain ⟨n, vo, rfl, hn, rfl, ho, hb⟩ := hrel
    have HB1 := Lib.hid hb
    generalize hO : fitJ m (l.take n) = O at ho
    have HO := Lib.hid ho
    have HOE := Lib.hid hO
    have hlen : O.length ≤ m := by rw [← hO]; exact fitJ_len m _ _ (Nat.zero_le _)
    obtain ⟨oa, oc, rfl, _, _, hos⟩ := ho.slice
    have HOS := Lib.hid hos
    clear ho hb hO hos
    by_cases hlt : n < l.length
    · by_cases hfull : O.length < m
      · obtain ⟨ad, la, lc, rfl, _, hadl, hc0, hc1, hc2, hc3, hc4, hc5, hr⟩ := jn_at (Sl.keep (fun k hk _ => HB1.out.block k hk) HS.out) n hlt
        have HR := Lib.hid hr
        clear hr
        by_cases h8 : (l[n].lines.length : Int) ≤ 8
        · generalize hp : postJ O l[n] = p
          have HP := Lib.hid hp
          clear hp
          go_wp2_with fail
          refine (rpost_is O oa oc l[n] la lc _ HOS.out (by unfold maxLen; omega) (jcs_inv HR.out).2.2.2.2.1 HP.out).mono ?_
          rintro e w2 ⟨rfl, hb⟩
          have HB2 := Lib.hid (belows_then HB1.out HB1.out.size hb)
          have HO2 := Lib.hid (OwnL.below HO.out hb)
          have HOS2 : Hid (Sl tJn w2 (fun _ => True) oa O) := Sl.keep (fun k hk _ => hb.block k hk) HOS.out
          clear hb hc0 hc1 hc2 hc3 hc4 hc5 hadl
          by_cases hp0 : p = 0
          · subst hp0
            obtain ⟨ad2, la2, lc2, hade, _, hadl, hc0, hc1, hc2, hc3, hc4, hc5, hr⟩ := jn_at (Sl.keep (fun k hk _ => HB2.out.block k hk) HS.out) n hlt
            injection hade with hade
            subst hade
            have HR2 := Lib.hid hr
            clear hr
            go_wp2_with fail
            refine (rput_any O oa oc l[n] la2 lc2 _ HOS2.out (by omega) HR2.out (post_ok_lines HP.out)).mono ?_
            rintro e w3 ⟨v3, rfl, ho3, hb3⟩
            have HB3 := Lib.hid (belows_then HB2.out HB2.out.size hb3)
            have HO3 := Lib.hid (ho3.mono HB2.out.size)
            have HN : Hid (fitJ m (l.take (n + 1)) = putJ O l[n]) := by show _ = _; rw [fitJ_succ m l n hlt, HOE.out]; simp [fitStep, hfull, h8, HP.out]
            clear ho3 hb3 hc0 hc1 hc2 hc3 hc4 hc5 hadl
            go_wp2_with fail
            go_roundw
            case rel => exact ⟨n + 1, _, rfl, by omega, by go_num, by rw [HN.out]; exact HO3.out, HB3.out⟩
            case measure => simp [Go.RowKit.intOf]; omega
          · have hp1 : (p == 0) = false := by simpa using hp0
            have HN : Hid (fitJ m (l.take (n + 1)) = O) := by show _ = _; rw [fitJ_succ m l n hlt, HOE.out]; simp [fitStep, hfull, h8, HP.out, hp0]
            go_wp2_with fail
            go_roundw
            case rel => exact ⟨n + 1, _, rfl, by omega, by go_num, by rw [HN.out]; exact HO2.out, HB2.out⟩
            case measure => simp [Go.RowKit.intOf]; omega
        · have HN : Hid (fitJ m (l.take (n + 1)) = O) := by show _ = _; rw [fitJ_succ m l n hlt, HOE.out]; simp [fitStep, hfull, h8]
          go_wp2_with fail
          go_roundw
          case rel => exact ⟨n + 1, _, rfl, by omega, by go_num, by rw [HN.out]; exact HO.out, HB1.out⟩
          case measure => simp [Go.RowKit.intOf]; omega
      · have HN : Hid (fitJ m l = O) := by show _ = _; rw [fitJ_full m l n (by rw [HOE.out]; exact hfull), HOE.out]
        go_wp2_with fail
        go_ret
        refine ⟨_, rfl, ?_, HB1.out⟩
        rw [HN.out]
        exact HO.out
    · have HN : Hid (fitJ m l = O) := by show _ = _; rw [← HOE.out, take_all hn hlt]
      go_wp2_with fail
      go_ret
      refine ⟨_, rfl, ?_, HB1.out⟩
      rw [HN.out]
      exact HO.out
end Go.Proofs.YtgggpaacagbmcaaGreat


/- variorumbook.Room, Few. -/
set_option linter.unusedVariables false
set_option linter.unusedSimpArgs false
namespace Go.Proofs.YtgggpaacagbmcaaGreat
open Go.RowKit Go.Maps

def RoomPost (w : World) (e : Ending) (w' : World) : Prop := (∃ k : Int, e = .returned (.int .i64 k) ∧ -1 ≤ k ∧ k ≤ 2000) ∧ w' = w
set_option maxHeartbeats 2000000 in
theorem room_any (left : Int) (a : Option Addr) (cap : Nat) (l : List Int) (w : World) {F : Nat → Prop} (h1 : -1 ≤ left) (h2 : left ≤ 2000) (hl : l.length ≤ 140737488351232) (hn : ∀ x ∈ l, 0 ≤ x) (hs : Sl tInt w F a l) :
    Calls Tryz.prog 22 #[.int .i64 left, .slice a l.length cap] w (RoomPost w) := by
  have HS := Lib.hid hs
  have HN := Lib.hid hn
  clear hs hn
  go_enter Tryz.func22, Tryz.ntmps22
  go_wp2_with fail
  go_loopw [0, 5] (fun vk vi wr => ∃ (n : Nat) (k : Int), n ≤ l.length ∧ vi = .int .i64 n ∧ vk = .int .i64 k ∧ -1 ≤ k ∧ k ≤ 2000 ∧ wr = w) (fun _ vi _ => l.length - (Go.RowKit.intOf vi).toNat)
  case atStart => exact ⟨0, left, Nat.zero_le _, rfl, rfl, h1, h2, rfl⟩
  case round =>
    obtain ⟨n, k, hn, rfl, rfl, hk1, hk2, rfl⟩ := hrel
    by_cases hlt : n < l.length
    · obtain ⟨ad, rfl, hadl, hc0⟩ := int_at HS.out n hlt
      have hx0 := HN.out l[n] (List.getElem_mem hlt)
      have hc : k < 0 ∨ 0 ≤ k ∧ (k < l[n] ∨ l[n] ≤ k) := by omega
      rcases hc with h | ⟨h, h3 | h3⟩
      · go_wp2_with fail
        go_ret
        exact ⟨⟨-1, rfl, by omega, by omega⟩, rfl⟩
      · go_wp2_with fail
        go_ret
        exact ⟨⟨-1, rfl, by omega, by omega⟩, rfl⟩
      · go_wp2_with fail
        go_roundw
        case rel => exact ⟨n + 1, k - l[n], by omega, by go_num, by go_num, by omega, by omega, by first | rfl | trivial⟩
        case measure => simp [Go.RowKit.intOf]; omega
    · go_wp2_with fail
      go_ret
      exact ⟨⟨k, rfl, hk1, hk2⟩, rfl⟩

theorem room2 (left x y : Int) (b : Nat) (W : World) (hb : W.heap[b]? = some (.cells #[.int .i64 x, .int .i64 y] 3 (0, 0))) (h1 : -1 ≤ left) (h2 : left ≤ 2000) (hx : 0 ≤ x) (hy : 0 ≤ y) (wx : I64 x) (wy : I64 y) :
    Calls Tryz.prog 22 #[.int .i64 left, .slice (some ⟨b, 0, none⟩) 2 2] W (RoomPost W) := by
  refine room_any left (some ⟨b, 0, none⟩) 2 [x, y] W h1 h2 (by simp only [List.length_cons, List.length_nil]; omega) (by simp [hx, hy]) (F := fun _ => True) ?_
  intro i u hi
  have hlt : b < W.heap.size := (Array.getElem?_eq_some_iff.1 hb).1
  have hcell := fun o => cell_of_row W b o #[.int .i64 x, .int .i64 y] 3 (0, 0) hb
  match i, hi with
  | 0, hi =>
    simp at hi; subst hi
    refine ⟨_, [.int .i64 x], rfl, trivial, hlt, fun j v hv => ?_, rfl, wx⟩
    cases j with
    | zero => simp at hv; subst hv; exact hcell 0
    | succ j => simp at hv
  | 1, hi =>
    simp at hi; subst hi
    refine ⟨_, [.int .i64 y], rfl, trivial, hlt, fun j v hv => ?_, rfl, wy⟩
    cases j with
    | zero => simp at hv; subst hv; exact hcell 1
    | succ j => simp at hv

set_option maxHeartbeats 4000000 in
set_option maxRecDepth 100000 in
theorem few_any (l : List Jn) (a : Option Addr) (cap : Nat) (m : Nat) (w : World) {F : Nat → Prop} (hs : Sl tJn w F a l) (hl : l.length ≤ maxLen) (hm : m ≤ 10000) :
    Calls Tryz.prog 6 #[.int .i64 m, .slice a l.length cap] w fun e w' => ∃ b : Bool, e = .returned (.bool b) ∧ (b = true → l.length ≤ m) ∧ Below w.heap.size w w' := by
  have HS := Lib.hid hs
  have hl' : l.length ≤ 9223372036854775807 := by unfold maxLen at hl; omega
  clear hs hl
  go_enter Tryz.func6, Tryz.ntmps6
  go_wp2_with fail
  go_loopw [5, 6] (fun vk vi wr => ∃ (n : Nat) (k : Int), n ≤ l.length ∧ n ≤ m + 1 ∧ vi = .int .i64 n ∧ vk = .int .i64 k ∧ -1 ≤ k ∧ k ≤ 2000 ∧ Below w.heap.size w wr) (fun _ vi _ => l.length - (Go.RowKit.intOf vi).toNat)
  case atStart => exact ⟨0, 2000, Nat.zero_le _, by omega, rfl, rfl, by omega, by omega, Below.refl _ _⟩
  case round =>
    obtain ⟨n, k, hn, hnm, rfl, rfl, hk1, hk2, hb⟩ := hrel
    have HB1 := Lib.hid hb
    clear hb
    have hend : (n < l.length ∧ n ≤ m ∧ 0 ≤ k) ∨ (¬ n < l.length ∨ n < l.length ∧ (m < n ∨ n ≤ m ∧ k < 0)) := by omega
    rcases hend with ⟨hlt, hle, hk0⟩ | h
    · obtain ⟨ad, la, lc, rfl, _, hadl, hc0, hc1, hc2, hc3, hc4, hc5, hr⟩ := jn_at (Sl.keep (fun k hk _ => HB1.out.block k hk) HS.out) n hlt
      obtain ⟨_, _, _, hrs, _, hll, hcm, _⟩ := jcs_inv hr
      have hrs' : (l[n].ref.size : Int) ≤ 140737488351232 := by omega
      have hll' : (l[n].lines.length : Int) ≤ (maxLen : Int) := by omega
      have hml : (maxLen : Int) ≤ 9223372036854775807 := by decide
      have hI1 : I64 (l[n].ref.size : Int) := by unfold I64 Lit.wf; simp [IntKind.min, IntKind.max, IntKind.bits, IntKind.signed]; omega
      have hI2 : I64 (l[n].lines.length : Int) := by unfold I64 Lit.wf; simp [IntKind.min, IntKind.max, IntKind.bits, IntKind.signed]; omega
      have H1 := Lib.hid hI1
      have H2 := Lib.hid hI2
      clear hr hrs hll hcm hI1 hI2 hml hrs' hll'
      go_wp2_with fail
      go_region_with (go_at_call 22; refine (room2 k l[n].ref.size l[n].lines.length _ _ (blk_new wr.drew (.cells #[.int .i64 l[n].ref.size, .int .i64 l[n].lines.length] 3)) hk1 hk2 (by omega) (by omega) H1.out H2.out).mono ?_; rintro e w' ⟨⟨k2, rfl, hk3, hk4⟩, rfl⟩)
      all_goals
        have HB2 := Lib.hid (Below.alloc (Below.drew HB1.out) HB1.out.size (.cells #[.int .i64 l[n].ref.size, .int .i64 l[n].lines.length] 3))
        clear hc0 hc1 hc2 hc3 hc4 hc5 hadl
        go_wp2_with fail
        go_roundw
        case rel => exact ⟨n + 1, k2, by omega, by omega, by go_num, rfl, hk3, hk4, HB2.out⟩
        case measure => simp [Go.RowKit.intOf]; omega
    · have hq : (¬ n < l.length ∧ ((l.length : Int) ≤ m ∧ (0 ≤ k ∨ k < 0) ∨ (m : Int) < (l.length : Int))) ∨ (n < l.length ∧ m < n ∧ (m : Int) < (l.length : Int)) ∨ (n < l.length ∧ n ≤ m ∧ k < 0 ∧ ((l.length : Int) ≤ m ∨ (m : Int) < (l.length : Int))) := by omega
      rcases hq with ⟨q1, ⟨q2, q3 | q3⟩ | q2⟩ | ⟨q1, q2, q3⟩ | ⟨q1, q2, q3, q4 | q4⟩
      all_goals
        clear h
        go_wp2_with fail
        go_ret
        refine ⟨_, rfl, fun hbt => ?_, HB1.out⟩
        first
        | omega
        | (simp at hbt; done)
        | (simp at hbt; omega)
        | cases hbt
end Go.Proofs.YtgggpaacagbmcaaGreat
