/- The document's Put, walked. -/
import Derived.Test.YtbgkladgeijgdaaGreatX09GroupOne
set_option linter.unusedVariables false
set_option linter.unusedSimpArgs false
namespace Go.Proofs.YtbgkladgeijgdaaGreat
open Go.RowKit Go.Maps

theorem sl_appJ {wx : World} {x : Jn} {la : Option Addr} {lc : Nat} {base B : Nat} {vo : Value} {O : List Jn} (hr : tJn.R wx (fun k => k < B) (jcs x la lc) x) (ho : OwnL tJn wx base vo O) (n : Nat) (hB : B ≤ base := by omega) :
    Sl tJn ((wx.drewN n).alloc (.cells #[.int .i64 x.id, .int .i64 x.en, .int .i64 x.pe, .string x.ref, .slice la x.lines.length lc, .bool x.void] 77)) (fun k => some k ≠ vo.ownBlock ∧ k < ((wx.drewN n).alloc (.cells #[.int .i64 x.id, .int .i64 x.en, .int .i64 x.pe, .string x.ref, .slice la x.lines.length lc, .bool x.void] 77)).heap.size)
      (some ⟨wx.heap.size, 0, none⟩) [x] := by
  have hlt := ho.lt
  refine sl_oneJ (a := la) (cap := lc) (blk_new (wx.drewN n) _) ⟨fun e => by have := hlt _ e.symm; omega, by simp⟩ ?_
  refine tJn.mono (fun k hk hf => ⟨fun e => ?_, hk⟩) (tJn.keep (w := wx.drewN n) (fun k hk _ => Below.heap_alloc (wx.drewN n) _ k hk) (show tJn.R (wx.drewN n) (fun k => k < B) (jcs x la lc) x from tJn.keep (fun k hk _ => rfl) hr))
  have := hlt _ e.symm
  have hf' : k < B := hf
  omega

theorem sl_appC {w2 : World} {x : Jn} {la : Option Addr} {lc : Nat} {base B : Nat} {vo : Value} {O : List Jn} (hr : tJn.R w2 (fun k => B ≤ k ∧ k < w2.heap.size) (jcs x la lc) x) (ho : OwnL tJn w2 base vo O) (hB : ∀ k, vo.ownBlock = some k → k < B) :
    Sl tJn (w2.alloc (.cells #[.int .i64 x.id, .int .i64 x.en, .int .i64 x.pe, .string x.ref, .slice la x.lines.length lc, .bool x.void] 77)) (fun k => some k ≠ vo.ownBlock ∧ k < (w2.alloc (.cells #[.int .i64 x.id, .int .i64 x.en, .int .i64 x.pe, .string x.ref, .slice la x.lines.length lc, .bool x.void] 77)).heap.size)
      (some ⟨w2.heap.size, 0, none⟩) [x] := by
  have hlt := ho.lt
  refine sl_oneJ (a := la) (cap := lc) (blk_new w2 _) ⟨fun e => by have := hlt _ e.symm; omega, by simp⟩ ?_
  refine tJn.mono (fun k hk hf => ⟨fun e => ?_, hk⟩) (tJn.keep (fun k hk _ => Below.heap_alloc w2 _ k hk) hr)
  have := hB _ e.symm
  have hf' := hf.1
  omega

set_option maxHeartbeats 4000000 in
set_option maxRecDepth 100000 in
theorem rput_any (l : List Jn) (a : Option Addr) (cap : Nat) (j : Jn) (ja : Option Addr) (jc : Nat) (w : World) {F G : Nat → Prop} (hs : Sl tJn w F a l) (hl : l.length ≤ 100000) (hj : tJn.R w G (jcs j ja jc) j) (hne : j.lines ≠ []) :
    Calls Tryz.prog 81 #[.slice a l.length cap, jnv j ja jc] w fun e w' => ∃ v, e = .returned v ∧ OwnL tJn w' w.heap.size v (putJ l j) ∧ Below w.heap.size w w' := by
  have HS : Hid (Sl tJn w (fun k => k < w.heap.size) a l) := Sl.mono (fun k hk _ => hk) hs
  have HJ := Lib.hid hj
  have HNE := Lib.hid hne
  clear hs hj hne
  obtain ⟨i0, hi, hz0, hz1, hz2⟩ := info_parts infoJ
  have HB := Lib.hid ((Below.refl w.heap.size w).alloc (Nat.le_refl _) (.cells #[.int .i64 j.id, .int .i64 j.en, .int .i64 j.pe, .string j.ref, .slice ja j.lines.length jc, .bool j.void] 77))
  have HZ := Lib.hid (blk_new w (.cells #[.int .i64 j.id, .int .i64 j.en, .int .i64 j.pe, .string j.ref, .slice ja j.lines.length jc, .bool j.void] 77))
  go_enter Tryz.func81, Tryz.ntmps81
  go_wp2_with fail
  go_loopw [5, 6, 7] (fun vo vd vi wr => ∃ (n : Nat) (vx : Value), vx = vo ∧ n ≤ l.length ∧ vi = .int .i64 n ∧ vd = .bool (putS j (l.take n)).2 ∧ OwnL tJn wr (w.heap.size + 1) vx (putS j (l.take n)).1 ∧ Below w.heap.size w wr ∧ wr.heap[w.heap.size]? = some (.cells #[.int .i64 j.id, .int .i64 j.en, .int .i64 j.pe, .string j.ref, .slice ja j.lines.length jc, .bool j.void] 77 (0, 0))) (fun _ _ vi _ => l.length - (intOf vi).toNat)
  case atStart => exact ⟨0, _, rfl, Nat.zero_le _, rfl, rfl, OwnL.nil _ _, HB.out, HZ.out⟩
  case round =>
    obtain ⟨n, vo, rfl, hn, rfl, rfl, ho, hb, hjb⟩ := hrel
    have HO := Lib.hid ho
    have HB1 := Lib.hid hb
    have HJ1 := Lib.hid hjb
    clear ho hb hjb
    obtain ⟨O, d, hst⟩ : ∃ O d, putS j (l.take n) = (O, d) := ⟨_, _, rfl⟩
    have HST := Lib.hid hst
    rw [hst] at HO ⊢
    clear hst
    simp only at HO ⊢
    by_cases hlt : n < l.length
    · have hcs : d = true ∨ d = false ∧ (j.id ≤ l[n].id ∨ l[n].id < j.id) := by
        cases d
        · right; refine ⟨rfl, ?_⟩; omega
        · left; rfl
      rcases hcs with rfl | ⟨rfl, hge | hge⟩
      · have hd : True := trivial
        have hz0' := blk_cells HJ1.out
        go_wp2_with fail
        go_quiet (fail)
        go_wp2_with fail
        refine abs_world (S := fun wx => OwnL tJn wx (w.heap.size + 1) vo (O) ∧ Below w.heap.size w wx ∧ wx.heap[w.heap.size]? = some (.cells #[.int .i64 j.id, .int .i64 j.en, .int .i64 j.pe, .string j.ref, .slice ja j.lines.length jc, .bool j.void] 77 (0, 0))) ?_ ⟨OwnL.keep HO.out (Nat.le_refl _) (fun k hk => rfl), below_drewN HB1.out _, blk_drew HJ1.out _⟩
        clear hz0'
        rintro wx ⟨hox, hbx, hjx⟩
        have HOX := Lib.hid hox
        have HBX := Lib.hid hbx
        have HJX := Lib.hid hjx
        clear hox hbx hjx
        obtain ⟨ad, la, lc, hade, _, hadl, hc0, hc1, hc2, hc3, hc4, hc5, hr⟩ := jn_at (Sl.keep (fun k hk _ => HBX.out.block k hk) HS.out) n hlt
        have HRX := Lib.hid hr
        clear hr
        first | subst hade | (injection hade with hade; subst hade)
        have hz := blk_cells HJX.out
        have hzl := blk_lt HJX.out
        cases hv : (l[n].id != j.id)
        · have HN : Hid (putS j (l.take (n + 1)) = (O, true)) := by show _ = _; rw [putS_succ j l n hlt]; simp [putStep, HST.out, hd, hv]
          go_wp2_with fail
          go_quiet (fail)
          go_wp2_with fail
          go_roundw
          case rel => exact ⟨n + 1, _, rfl, by omega, by go_num, by rw [HN.out], by rw [HN.out]; exact OwnL.keep HOX.out (Nat.le_refl _) (fun k hk => rfl), below_drewN HBX.out _, blk_drew HJX.out _⟩
          case measure => simp [intOf]; omega
        · have HN : Hid (putS j (l.take (n + 1)) = (O ++ [l[n]], true)) := by show _ = _; rw [putS_succ j l n hlt]; simp [putStep, HST.out, hd, hv]
          have HLEN : Hid ((O).length + [l[n]].length ≤ 100001) := by show _ ≤ _; have := putS_take_len j l (n + 1) (by omega); rw [HN.out] at this; simp at this; simp; omega
          go_wp2_with fail
          go_quiet (fail)
          go_wp2_with (first
            | (at_builtin; refine wp_app (T := tJn) rfl _ _ 23 rfl i0 (.agg #[.int .i64 0, .int .i64 0, .int .i64 0, .string ⟨#[]⟩, .slice none 0 0, .bool false]) 72 Tryz.underlying23 hi hz0 hz1 hz2 rfl (by decide) jn_one (w.heap.size + 1) vo (O) rfl (OwnL.alloc (OwnL.keep HOX.out (Nat.le_refl _) (fun k hk => rfl)) _) ⟨wx.heap.size, 0, none⟩ 1 [l[n]] rfl (sl_appJ HRX.out HOX.out _) (by have := HLEN.out; unfold maxLen; omega) (by have := HLEN.out; omega) (by have := HBX.out.size; simp; omega) ?_; intro v2 w3 hown hg hnil hat
               have HO3 := Lib.hid hown
               have HB3 := Lib.hid (Below.grown (Below.alloc (below_drewN HBX.out _) HBX.out.size _) hg (Nat.le_trans HBX.out.size (by simp)) (fun k e => by have := HOX.out.lt k e; omega))
               have HJ3 := Lib.hid ((hg.block w.heap.size (by have := blk_lt HJX.out; simp; omega) (fun e => by have := HOX.out.lt _ e.symm; omega)).trans (blk_alloc (blk_drew HJX.out _) _))
               clear hown hg hnil hat
               obtain ⟨a3, c3, rfl, _⟩ := HO3.out.slice))
          go_roundw
          case rel => exact ⟨n + 1, _, rfl, by omega, by go_num, by rw [HN.out], by rw [HN.out]; simpa using HO3.out, HB3.out, HJ3.out⟩
          case measure => simp [intOf]; omega
      · have hd : decide (j.id ≤ l[n].id) = true := by simpa using hge
        have hz0' := blk_cells HJ1.out
        obtain ⟨ad, la, lc, rfl, _, hadl, hc0, hc1, hc2, hc3, hc4, hc5, hr⟩ := jn_at (Sl.keep (fun k hk _ => HB1.out.block k hk) HS.out) n hlt
        clear hr hc1 hc2 hc3 hc4 hc5
        have hzl0 := blk_lt HJ1.out
        go_wp2_with fail
        go_quiet (fail)
        go_wp2_with fail
        refine (rcopy_any j ja jc _ (tJn.keep (fun k hk _ => (below_drewN HB1.out _).block k hk) HJ.out) HNE.out).mono ?_
        rintro e w2 ⟨ca, cc, rfl, hb, hr⟩
        have HRC := Lib.hid hr
        have HOC : Hid (OwnL tJn w2 (w.heap.size + 1) vo O) := OwnL.below (w := wr.drewN _) (OwnL.keep HO.out (Nat.le_refl _) (fun k hk => rfl)) hb
        have HBC := Lib.hid (belows_then (below_drewN HB1.out _) HB1.out.size hb)
        have HJC := Lib.hid (blk_below (blk_drew HJ1.out _) hb)
        have HLO := Lib.hid HO.out.lt
        have HLEN : Hid (O.length + [j].length ≤ 100001 + 1) := by show _ ≤ _; have := putS_take_len j l n (by omega); rw [HST.out] at this; simp at this; simp; omega
        clear hb hr hc0 hzl0 hadl hz0'
        go_wp2_with (first
          | (at_builtin; refine wp_app (T := tJn) rfl _ _ 23 rfl i0 (.agg #[.int .i64 0, .int .i64 0, .int .i64 0, .string ⟨#[]⟩, .slice none 0 0, .bool false]) 72 Tryz.underlying23 hi hz0 hz1 hz2 rfl (by decide) jn_one (w.heap.size + 1) vo O rfl (OwnL.alloc HOC.out _) ⟨w2.heap.size, 0, none⟩ 1 [j] rfl (sl_appC HRC.out HOC.out (fun k hk => (HLO.out k hk).2)) (by have := HLEN.out; unfold maxLen; omega) (by have := HLEN.out; omega) (by have := HBC.out.size; simp; omega) ?_; intro v2 w3 hown hg hnil hat
             have HO3 := Lib.hid hown
             have HB3 := Lib.hid (Below.grown (Below.alloc HBC.out HBC.out.size _) hg (Nat.le_trans HBC.out.size (by simp)) (fun k e => by have := HOC.out.lt k e; omega))
             have HJ3 := Lib.hid ((hg.block w.heap.size (by have := blk_lt HJC.out; simp; omega) (fun e => by have := HOC.out.lt _ e.symm; omega)).trans (blk_alloc HJC.out _))
             clear hown hg hnil hat
             obtain ⟨a3, c3, rfl, _⟩ := HO3.out.slice))
        have hox3 : OwnL tJn w3 (w.heap.size + 1) (.slice a3 (O.length + 1) c3) (O ++ [j]) := by simpa using HO3.out
        refine abs_world (S := fun wx => OwnL tJn wx (w.heap.size + 1) (.slice a3 (O.length + 1) c3) (O ++ [j]) ∧ Below w.heap.size w wx ∧ wx.heap[w.heap.size]? = some (.cells #[.int .i64 j.id, .int .i64 j.en, .int .i64 j.pe, .string j.ref, .slice ja j.lines.length jc, .bool j.void] 77 (0, 0))) ?_ ⟨hox3, HB3.out, HJ3.out⟩
        clear HO3 HB3 HJ3 hox3 HLEN
        rintro wx ⟨hox, hbx, hjx⟩
        have HOX := Lib.hid hox
        have HBX := Lib.hid hbx
        have HJX := Lib.hid hjx
        clear hox hbx hjx
        obtain ⟨ad, la, lc, hade, _, hadl, hc0, hc1, hc2, hc3, hc4, hc5, hr⟩ := jn_at (Sl.keep (fun k hk _ => HBX.out.block k hk) HS.out) n hlt
        have HRX := Lib.hid hr
        clear hr
        first | subst hade | (injection hade with hade; subst hade)
        have hz := blk_cells HJX.out
        have hzl := blk_lt HJX.out
        cases hv : (l[n].id != j.id)
        · have HN : Hid (putS j (l.take (n + 1)) = ((O ++ [j]), true)) := by show _ = _; rw [putS_succ j l n hlt]; simp [putStep, HST.out, hd, hv]
          go_wp2_with fail
          go_quiet (fail)
          go_wp2_with fail
          go_roundw
          case rel => exact ⟨n + 1, _, rfl, by omega, by go_num, by rw [HN.out], by rw [HN.out]; exact OwnL.keep HOX.out (Nat.le_refl _) (fun k hk => rfl), below_drewN HBX.out _, blk_drew HJX.out _⟩
          case measure => simp [intOf]; omega
        · have HN : Hid (putS j (l.take (n + 1)) = ((O ++ [j]) ++ [l[n]], true)) := by show _ = _; rw [putS_succ j l n hlt]; simp [putStep, HST.out, hd, hv]
          have HLEN : Hid (((O ++ [j])).length + [l[n]].length ≤ 100001) := by show _ ≤ _; have := putS_take_len j l (n + 1) (by omega); rw [HN.out] at this; simp at this; simp; omega
          go_wp2_with fail
          go_quiet (fail)
          go_wp2_with (first
            | (at_builtin; refine wp_app (T := tJn) rfl _ _ 23 rfl i0 (.agg #[.int .i64 0, .int .i64 0, .int .i64 0, .string ⟨#[]⟩, .slice none 0 0, .bool false]) 72 Tryz.underlying23 hi hz0 hz1 hz2 rfl (by decide) jn_one (w.heap.size + 1) (.slice a3 (O.length + 1) c3) ((O ++ [j])) rfl (OwnL.alloc (OwnL.keep HOX.out (Nat.le_refl _) (fun k hk => rfl)) _) ⟨wx.heap.size, 0, none⟩ 1 [l[n]] rfl (sl_appJ HRX.out HOX.out _) (by have := HLEN.out; unfold maxLen; omega) (by have := HLEN.out; omega) (by have := HBX.out.size; simp; omega) ?_; intro v2 w3 hown hg hnil hat
               have HO3 := Lib.hid hown
               have HB3 := Lib.hid (Below.grown (Below.alloc (below_drewN HBX.out _) HBX.out.size _) hg (Nat.le_trans HBX.out.size (by simp)) (fun k e => by have := HOX.out.lt k e; omega))
               have HJ3 := Lib.hid ((hg.block w.heap.size (by have := blk_lt HJX.out; simp; omega) (fun e => by have := HOX.out.lt _ e.symm; omega)).trans (blk_alloc (blk_drew HJX.out _) _))
               clear hown hg hnil hat
               obtain ⟨a3, c3, rfl, _⟩ := HO3.out.slice))
          go_roundw
          case rel => exact ⟨n + 1, _, rfl, by omega, by go_num, by rw [HN.out], by rw [HN.out]; simpa using HO3.out, HB3.out, HJ3.out⟩
          case measure => simp [intOf]; omega
      · have hd : decide (j.id ≤ l[n].id) = false := by simp; omega
        have hz0' := blk_cells HJ1.out
        obtain ⟨ad, la, lc, rfl, _, hadl, hc0, hc1, hc2, hc3, hc4, hc5, hr⟩ := jn_at (Sl.keep (fun k hk _ => HB1.out.block k hk) HS.out) n hlt
        clear hr hc1 hc2 hc3 hc4 hc5
        have hzl0 := blk_lt HJ1.out
        go_wp2_with fail
        go_quiet (fail)
        go_wp2_with fail
        clear hc0 hzl0 hadl
        refine abs_world (S := fun wx => OwnL tJn wx (w.heap.size + 1) vo (O) ∧ Below w.heap.size w wx ∧ wx.heap[w.heap.size]? = some (.cells #[.int .i64 j.id, .int .i64 j.en, .int .i64 j.pe, .string j.ref, .slice ja j.lines.length jc, .bool j.void] 77 (0, 0))) ?_ ⟨OwnL.keep HO.out (Nat.le_refl _) (fun k hk => rfl), below_drewN HB1.out _, blk_drew HJ1.out _⟩
        clear hz0'
        rintro wx ⟨hox, hbx, hjx⟩
        have HOX := Lib.hid hox
        have HBX := Lib.hid hbx
        have HJX := Lib.hid hjx
        clear hox hbx hjx
        obtain ⟨ad, la, lc, hade, _, hadl, hc0, hc1, hc2, hc3, hc4, hc5, hr⟩ := jn_at (Sl.keep (fun k hk _ => HBX.out.block k hk) HS.out) n hlt
        have HRX := Lib.hid hr
        clear hr
        first | subst hade | (injection hade with hade; subst hade)
        have hz := blk_cells HJX.out
        have hzl := blk_lt HJX.out
        cases hv : (l[n].id != j.id)
        · have HN : Hid (putS j (l.take (n + 1)) = (O, false)) := by show _ = _; rw [putS_succ j l n hlt]; simp [putStep, HST.out, hd, hv]
          go_wp2_with fail
          go_quiet (fail)
          go_wp2_with fail
          go_roundw
          case rel => exact ⟨n + 1, _, rfl, by omega, by go_num, by rw [HN.out], by rw [HN.out]; exact OwnL.keep HOX.out (Nat.le_refl _) (fun k hk => rfl), below_drewN HBX.out _, blk_drew HJX.out _⟩
          case measure => simp [intOf]; omega
        · have HN : Hid (putS j (l.take (n + 1)) = (O ++ [l[n]], false)) := by show _ = _; rw [putS_succ j l n hlt]; simp [putStep, HST.out, hd, hv]
          have HLEN : Hid ((O).length + [l[n]].length ≤ 100001) := by show _ ≤ _; have := putS_take_len j l (n + 1) (by omega); rw [HN.out] at this; simp at this; simp; omega
          go_wp2_with fail
          go_quiet (fail)
          go_wp2_with (first
            | (at_builtin; refine wp_app (T := tJn) rfl _ _ 23 rfl i0 (.agg #[.int .i64 0, .int .i64 0, .int .i64 0, .string ⟨#[]⟩, .slice none 0 0, .bool false]) 72 Tryz.underlying23 hi hz0 hz1 hz2 rfl (by decide) jn_one (w.heap.size + 1) vo (O) rfl (OwnL.alloc (OwnL.keep HOX.out (Nat.le_refl _) (fun k hk => rfl)) _) ⟨wx.heap.size, 0, none⟩ 1 [l[n]] rfl (sl_appJ HRX.out HOX.out _) (by have := HLEN.out; unfold maxLen; omega) (by have := HLEN.out; omega) (by have := HBX.out.size; simp; omega) ?_; intro v2 w3 hown hg hnil hat
               have HO3 := Lib.hid hown
               have HB3 := Lib.hid (Below.grown (Below.alloc (below_drewN HBX.out _) HBX.out.size _) hg (Nat.le_trans HBX.out.size (by simp)) (fun k e => by have := HOX.out.lt k e; omega))
               have HJ3 := Lib.hid ((hg.block w.heap.size (by have := blk_lt HJX.out; simp; omega) (fun e => by have := HOX.out.lt _ e.symm; omega)).trans (blk_alloc (blk_drew HJX.out _) _))
               clear hown hg hnil hat
               obtain ⟨a3, c3, rfl, _⟩ := HO3.out.slice))
          go_roundw
          case rel => exact ⟨n + 1, _, rfl, by omega, by go_num, by rw [HN.out], by rw [HN.out]; simpa using HO3.out, HB3.out, HJ3.out⟩
          case measure => simp [intOf]; omega
    · have HST2 : Hid (putS j l = (O, d)) := by show _ = _; rw [← HST.out, take_all hn hlt]
      have hz0' := blk_cells HJ1.out
      have hzl0 := blk_lt HJ1.out
      cases d
      · go_wp2_with fail
        refine (rcopy_any j ja jc _ (tJn.keep (fun k hk _ => HB1.out.block k hk) HJ.out) HNE.out).mono ?_
        rintro e w2 ⟨ca, cc, rfl, hb, hr⟩
        have HRC := Lib.hid hr
        have HOC : Hid (OwnL tJn w2 (w.heap.size + 1) vo O) := OwnL.below HO.out hb
        have HBC := Lib.hid (belows_then HB1.out HB1.out.size hb)
        have HLO := Lib.hid HO.out.lt
        have HLEN : Hid (O.length + [j].length ≤ 100001 + 1) := by show _ ≤ _; have := putS_take_len j l n hn; rw [HST.out] at this; simp at this; simp; omega
        clear hb hr hzl0 hz0'
        go_wp2_with (first
          | (at_builtin; refine wp_app (T := tJn) rfl _ _ 23 rfl i0 (.agg #[.int .i64 0, .int .i64 0, .int .i64 0, .string ⟨#[]⟩, .slice none 0 0, .bool false]) 72 Tryz.underlying23 hi hz0 hz1 hz2 rfl (by decide) jn_one (w.heap.size + 1) vo O rfl (OwnL.alloc HOC.out _) ⟨w2.heap.size, 0, none⟩ 1 [j] rfl (sl_appC HRC.out HOC.out (fun k hk => (HLO.out k hk).2)) (by have := HLEN.out; unfold maxLen; omega) (by have := HLEN.out; omega) (by have := HBC.out.size; simp; omega) ?_; intro v2 w3 hown hg hnil hat
             have HO3 := Lib.hid hown
             have HB3 := Lib.hid (Below.grown (Below.alloc HBC.out HBC.out.size _) hg (Nat.le_trans HBC.out.size (by simp)) (fun k e => by have := HOC.out.lt k e; omega))
             clear hown hg hnil hat
             obtain ⟨a3, c3, rfl, _⟩ := HO3.out.slice))
        go_ret
        refine ⟨_, rfl, ?_, HB3.out⟩
        have e1 : putJ l j = O ++ [j] := by simp [putJ, HST2.out]
        rw [e1]
        simpa using HO3.out.mono (by omega)
      · go_wp2_with fail
        go_ret
        refine ⟨_, rfl, ?_, HB1.out⟩
        have e1 : putJ l j = O := by simp [putJ, HST2.out]
        rw [e1]
        exact HO.out.mono (by omega)
end Go.Proofs.YtbgkladgeijgdaaGreat
