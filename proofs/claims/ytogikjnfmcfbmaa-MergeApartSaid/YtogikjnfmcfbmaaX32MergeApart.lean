/- merge: what comes of all numbers (table). -/
import Derived.Test.YtogikjnfmcfbmaaX28MergeApart
import Derived.Test.YtogikjnfmcfbmaaX31MergeApart
set_option linter.unusedVariables false
set_option linter.unusedSimpArgs false
namespace Go.Proofs.Ytogikjnfmcfbmaa
open Go.RowKit Go.Maps Go.Sort Go.Shelf

theorem one_bk {w : World} {g0 g1 g2 : Nat} {l0 l1 l2 : List Jn} (h0 : Bk w g0 l0) (h1 : Bk w g1 l1) (h2 : Bk w g2 l2) (id : Int) (hid : I64 id) : Calls Try.prog 52 #[(.agg #[.pointer (some ⟨g0, 0, none⟩), .pointer (some ⟨g1, 0, none⟩), .pointer (some ⟨g2, 0, none⟩)]), .int .i64 id] w (OneB w (oneAt l0 l1 l2 id)) := by
  obtain ⟨a0, c0, F0, k0⟩ := h0.at'
  obtain ⟨a1, c1, F1, k1⟩ := h1.at'
  obtain ⟨a2, c2, F2, k2⟩ := h2.at'
  exact one_any k0 k1 k2 (by have := h0.len; omega) (by have := h1.len; omega) (by have := h2.len; omega) h0.ord h1.ord h2.ord h0.ne h1.ne h2.ne id hid
theorem oneAt_kind (l0 l1 l2 : List Jn) (k : Int) : (oneAt l0 l1 l2 k).2 = 0 ∨ (oneAt l0 l1 l2 k).2 = 1 ∨ (oneAt l0 l1 l2 k).2 = 2 := by
  unfold oneAt oneJ
  split
  · exact .inl rfl
  · split
    · exact .inl rfl
    · split
      · exact .inr (.inr rfl)
      · exact .inr (.inl rfl)
theorem JMap.only {w w' : World} {b c : Nat} {cm : List (Int × JV)} {F : Nat → Prop} (h : JMap w b cm F) (ho : OnlyB w w' c) (hc : b ≠ c) (hF : ∀ k, F k → k ≠ c) : JMap w' b cm F :=
  ⟨h.map.keep (ho.heap hc), fun x hx => tJn.keep (fun k hk hf => ho.heap (hF k hf)) (h.jn x hx)⟩
theorem rise_new {ks : List Int} (h : ks.Pairwise (· < ·)) {n : Nat} (hn : n < ks.length) : ks[n] ∉ ks.take n := by
  intro hm
  obtain ⟨i, hi, he⟩ := List.mem_iff_getElem.1 hm
  rw [List.length_take] at hi
  rw [List.getElem_take] at he
  have := (List.pairwise_iff_getElem.1 h) i n (by omega) hn (by omega)
  omega

theorem cm_new {l0 l1 l2 : List Jn} {cm : List (Int × JV)} {ks : List Int} (h : cm.map (fun x => (x.1, x.2.j)) = cameL l0 l1 l2 ks) {k : Int} (hk : k ∉ ks) : look cm k = none := by
  refine look_none (fun hm => ?_)
  obtain ⟨x, hx, rfl⟩ := List.mem_map.1 hm
  have : (x.1, x.2.j) ∈ cameL l0 l1 l2 ks := by rw [← h]; exact List.mem_map.2 ⟨x, hx, rfl⟩
  exact hk (cameL_key this).1
theorem bad_new (l0 l1 l2 : List Jn) {ks : List Int} {k : Int} (hk : k ∉ ks) : look (badL l0 l1 l2 ks) k = none := by
  refine look_none (fun hm => ?_)
  obtain ⟨x, hx, rfl⟩ := List.mem_map.1 hm
  exact hk (badL_key hx).1

def TabP (w : World) (l0 l1 l2 : List Jn) (e : Ending) (w' : World) : Prop :=
  ∃ (bc bb : Nat) (cm : List (Int × JV)), e = .returned (.tuple #[.map (some bc), .map (some bb)]) ∧ JMap w' bc cm (fun k => w.heap.size ≤ k) ∧ cm.map (fun x => (x.1, x.2.j)) = cameL l0 l1 l2 (idsJ l0 l1 l2) ∧
    MapIs mInt (Value.int .i64) w' bb (badL l0 l1 l2 (idsJ l0 l1 l2)) ∧ Below w.heap.size w w'

set_option maxHeartbeats 16000000 in
set_option maxRecDepth 100000 in
theorem table_any {w : World} {g0 g1 g2 : Nat} {l0 l1 l2 : List Jn} (h0 : Bk w g0 l0) (h1 : Bk w g1 l1) (h2 : Bk w g2 l2) :
    Calls Try.prog 30 #[(.agg #[.pointer (some ⟨g0, 0, none⟩), .pointer (some ⟨g1, 0, none⟩), .pointer (some ⟨g2, 0, none⟩)])] w (TabP w l0 l1 l2) := by
  have hk0 : Below w.heap.size w (((w.alloc (.cells #[.pointer (some ⟨g0, 0, none⟩), .pointer (some ⟨g1, 0, none⟩), .pointer (some ⟨g2, 0, none⟩)] 71)).alloc (.map #[] 0)).alloc (.map #[] 0)) := (((Below.refl w.heap.size w).alloc (Nat.le_refl _) _).alloc (by simp) _).alloc (by simp; omega) _
  have HK := Lib.hid hk0
  have HB0 := Lib.hid h0
  have HB1 := Lib.hid h1
  have HB2 := Lib.hid h2
  have HC := Lib.hid (ids_any (h0.below hk0) (h1.below hk0) (h2.below hk0))
  have HRISE := Lib.hid (idsJ_rise l0 l1 l2)
  have HOK : Hid (∀ k ∈ idsJ l0 l1 l2, I64 k) := Lib.hid (fun k hk => by
    obtain ⟨x, hx, rfl⟩ := idsJ_mem.1 hk
    have hb : 1 ≤ x.id ∧ x.id ≤ 999999 := by
      rcases List.mem_append.1 hx with hx | hx
      · rcases List.mem_append.1 hx with hx | hx
        · exact h0.ord.ok x hx
        · exact h1.ord.ok x hx
      · exact h2.ord.ok x hx
    unfold I64 Lit.wf
    simp [IntKind.min, IntKind.max, IntKind.bits, IntKind.signed]
    omega)
  have hidl : (idsJ l0 l1 l2).length ≤ 1000 := by
    have h3 := cntS_len ((l0 ++ l1) ++ l2) []
    have h4 := h0.len
    have h5 := h1.len
    have h6 := h2.len
    simp only [List.length_append, List.length_nil] at h3
    unfold idsJ cntS
    rw [srt_len, List.length_map]
    omega
  have HM1 : Hid (MapIs mInt evJ (((w.alloc (.cells #[.pointer (some ⟨g0, 0, none⟩), .pointer (some ⟨g1, 0, none⟩), .pointer (some ⟨g2, 0, none⟩)] 71)).alloc (.map #[] 0)).alloc (.map #[] 0)) (w.heap.size + 1) ([] : List (Int × JV))) := Lib.hid ((by have := MapIs.new mInt evJ (w.alloc (.cells #[.pointer (some ⟨g0, 0, none⟩), .pointer (some ⟨g1, 0, none⟩), .pointer (some ⟨g2, 0, none⟩)] 71)); simpa using this : MapIs mInt evJ ((w.alloc (.cells #[.pointer (some ⟨g0, 0, none⟩), .pointer (some ⟨g1, 0, none⟩), .pointer (some ⟨g2, 0, none⟩)] 71)).alloc (.map #[] 0)) (w.heap.size + 1) ([] : List (Int × JV))).keep (Below.heap_alloc _ _ _ (by simp)))
  have HM2 : Hid (MapIs mInt (Value.int .i64) (((w.alloc (.cells #[.pointer (some ⟨g0, 0, none⟩), .pointer (some ⟨g1, 0, none⟩), .pointer (some ⟨g2, 0, none⟩)] 71)).alloc (.map #[] 0)).alloc (.map #[] 0)) (w.heap.size + 2) ([] : List (Int × Int))) := Lib.hid (by have := MapIs.new mInt (Value.int .i64) ((w.alloc (.cells #[.pointer (some ⟨g0, 0, none⟩), .pointer (some ⟨g1, 0, none⟩), .pointer (some ⟨g2, 0, none⟩)] 71)).alloc (.map #[] 0)); simpa using this)
  have HZ : Hid (((((w.alloc (.cells #[.pointer (some ⟨g0, 0, none⟩), .pointer (some ⟨g1, 0, none⟩), .pointer (some ⟨g2, 0, none⟩)] 71)).alloc (.map #[] 0)).alloc (.map #[] 0))).heap[w.heap.size]? = some (.cells #[.pointer (some ⟨g0, 0, none⟩), .pointer (some ⟨g1, 0, none⟩), .pointer (some ⟨g2, 0, none⟩)] 71 (0, 0))) := Lib.hid (blk_alloc (blk_alloc (blk_new w (.cells #[.pointer (some ⟨g0, 0, none⟩), .pointer (some ⟨g1, 0, none⟩), .pointer (some ⟨g2, 0, none⟩)] 71)) _) _)
  have hsz : ((((w.alloc (.cells #[.pointer (some ⟨g0, 0, none⟩), .pointer (some ⟨g1, 0, none⟩), .pointer (some ⟨g2, 0, none⟩)] 71)).alloc (.map #[] 0)).alloc (.map #[] 0))).heap.size = w.heap.size + 3 := by simp
  have hmm := @run_makeMap Try.prog
  clear h0 h1 h2 hk0
  unfold TabP
  obtain ⟨ks, hks⟩ : ∃ ks, idsJ l0 l1 l2 = ks := ⟨_, rfl⟩
  rw [hks] at HC HRISE HOK hidl
  simp only [hks]
  clear hks
  go_enter Try.func30, Try.ntmps30
  go_wp2_with fail
  clear hmm
  refine HC.out.mono ?_
  rintro en w4 ⟨v, rfl, ho, hb⟩
  rw [hsz] at ho
  have hs4 : w.heap.size + 3 ≤ w4.heap.size := by have := hb.size; rw [hsz] at this; exact this
  have HB4 := Lib.hid (belows_then HK.out (by rw [hsz]; omega) hb)
  have HZ4 := Lib.hid (blk_below HZ.out hb)
  have HM14 := Lib.hid (HM1.out.keep (hb.block _ HM1.out.lt))
  have HM24 := Lib.hid (HM2.out.keep (hb.block _ HM2.out.lt))
  obtain ⟨ka, kc, rfl, _, _, hks⟩ := ho.slice_free intF
  have HKS : Hid (Sl tInt w4 (fun k => w.heap.size + 3 ≤ k) ka ks) := Lib.hid (Sl.mono (fun k _ hf => hf.1) hks)
  clear ho hb hks HC HM1 HM2 HZ
  go_wp2_with fail
  go_loopw [15] (fun vi wr => ∃ (n : Nat) (cm : List (Int × JV)), n ≤ ks.length ∧ vi = .int .i64 n ∧ JMap wr (w.heap.size + 1) cm (fun k => w4.heap.size ≤ k) ∧ Hid (cm.map (fun x => (x.1, x.2.j)) = cameL l0 l1 l2 (ks.take n)) ∧ MapIs mInt (Value.int .i64) wr (w.heap.size + 2) (badL l0 l1 l2 (ks.take n)) ∧ But (fun k => k = w.heap.size + 1 ∨ k = w.heap.size + 2) w4 wr) (fun vi _ => ks.length - (intOf vi).toNat)
  case atStart => exact ⟨0, [], Nat.zero_le _, rfl, ⟨HM14.out, by simp⟩, Lib.hid rfl, HM24.out, But.refl _ _⟩
  case round =>
    obtain ⟨n, cm, hn, rfl, hj, hcm, hm, hbu⟩ := hrel
    have HJ := Lib.hid hj
    have HM := Lib.hid hm
    have HBU := Lib.hid hbu
    have hsw := hbu.size
    have HBW := Lib.hid (But.toBelow HB4.out hbu (fun k e => by omega) (by omega))
    clear hj hm hbu
    by_cases hlt : n < ks.length
    · obtain ⟨ad, rfl, hadl, hc0⟩ := int_at (Sl.keep (fun k hk hf => HBU.out.block k hk (by omega)) HKS.out) n hlt
      have HK1 := Lib.hid (HOK.out ks[n] (List.getElem_mem hlt))
      have HNEW := Lib.hid (rise_new HRISE.out hlt)
      have HTC : Hid (cameL l0 l1 l2 (ks.take (n + 1)) = _) := Lib.hid (by rw [List.take_succ_eq_append_getElem hlt, cameL_snoc])
      have HTB : Hid (badL l0 l1 l2 (ks.take (n + 1)) = _) := Lib.hid (by rw [List.take_succ_eq_append_getElem hlt, badL_snoc])
      have HKIND := Lib.hid (oneAt_kind l0 l1 l2 ks[n])
      generalize ks[n] = k at *
      have HONE := Lib.hid (one_bk (HB0.out.below HBW.out) (HB1.out.below HBW.out) (HB2.out.below HBW.out) k HK1.out)
      generalize oneAt l0 l1 l2 k = x at *
      obtain ⟨x, kd⟩ := x
      have HZR := Lib.hid ((HBU.out.block w.heap.size (by omega) (by omega)).trans HZ4.out)
      have hz := blk_cells HZR.out
      have hzl := blk_lt HZR.out
      go_wp2_with fail
      refine HONE.out.mono ?_
      rintro en w5 ⟨a5, c5, rfl, hr, hb⟩
      have HB5 := Lib.hid hb
      have HR5 := Lib.hid (tJn.keep (fun k hk _ => Below.heap_alloc w5 (.cells #[.int .i64 x.id, .int .i64 x.en, .int .i64 x.pe, .string x.ref, .slice a5 x.lines.length c5, .bool x.void] 31) k hk) (tJn.mono (G := fun k => w4.heap.size ≤ k) (fun k _ hf => Nat.le_trans hsw hf.1) hr))
      have hs5 := hb.size
      have HBA : Hid (Below wr.heap.size wr (w5.alloc (.cells #[.int .i64 x.id, .int .i64 x.en, .int .i64 x.pe, .string x.ref, .slice a5 x.lines.length c5, .bool x.void] 31))) := Lib.hid (hb.alloc hb.size _)
      have HJA := Lib.hid (HJ.out.below HBA.out)
      have HMA := Lib.hid (HM.out.keep (HBA.out.block _ HM.out.lt))
      have HBUA := Lib.hid (HBU.out.call HBA.out)
      clear hr hb hc0 hadl
      have hkind := HKIND.out
      (try simp only at hkind)
      rcases hkind with rfl | rfl | rfl
      · have HTB2 : Hid (badL l0 l1 l2 (ks.take (n + 1)) = badL l0 l1 l2 (ks.take n)) := Lib.hid (by rw [HTB.out]; simp)
        cases hx : x.id == 0
        · have hx2 : (x.id != 0) = true := by simpa using hx
          have HTC2 : Hid (cameL l0 l1 l2 (ks.take (n + 1)) = cameL l0 l1 l2 (ks.take n) ++ [(k, x)]) := Lib.hid (by rw [HTC.out, hx2]; rfl)
          have HINS := Lib.hid (ins_new cm k (⟨x, a5, c5⟩ : JV) (cm_new hcm.out HNEW.out))
          have hcx := blk_cells (blk_new w5 (.cells #[.int .i64 x.id, .int .i64 x.en, .int .i64 x.pe, .string x.ref, .slice a5 x.lines.length c5, .bool x.void] 31))
          go_wp2_with (at_mapUpdate; refine wp_update (M := mInt) (ev := evJ) rfl _ _ _ 67 rfl _ Try.underlying67 (w.heap.size + 1) cm k (⟨x, a5, c5⟩ : JV) rfl rfl rfl HJA.out.map HK1.out ?_; intro w6 hm6 ho6; have HM6 := Lib.hid (HMA.out.keep (ho6.heap (by omega))); have HJ6 : Hid (JMap w6 (w.heap.size + 1) (cm ++ [(k, ⟨x, a5, c5⟩)]) (fun k => w4.heap.size ≤ k)) := Lib.hid ⟨by rw [← HINS.out]; exact hm6, fun y hy => by rcases List.mem_append.1 hy with hy | hy; exact tJn.keep (fun k hk hf => ho6.heap (by omega)) (HJA.out.jn y hy); rw [List.mem_singleton] at hy; subst hy; exact tJn.keep (fun k hk hf => ho6.heap (by omega)) HR5.out⟩; have HB6 := Lib.hid (HBUA.out.only ho6 (.inl (.inl rfl))); clear hm6 ho6)
          go_roundw
          case rel => exact ⟨n + 1, _, by omega, by go_num, HJ6.out, Lib.hid (by rw [HTC2.out, List.map_append, hcm.out]; rfl), by rw [HTB2.out]; exact HM6.out, HB6.out⟩
          case measure => simp [intOf]; omega
        · have hx2 : (x.id != 0) = false := by simpa using hx
          have HTC2 : Hid (cameL l0 l1 l2 (ks.take (n + 1)) = cameL l0 l1 l2 (ks.take n)) := Lib.hid (by rw [HTC.out, hx2]; simp)
          go_wp2_with fail
          go_roundw
          case rel => exact ⟨n + 1, cm, by omega, by go_num, HJA.out, Lib.hid (by rw [HTC2.out]; exact hcm.out), by rw [HTB2.out]; exact HMA.out, HBUA.out⟩
          case measure => simp [intOf]; omega
      · have HTC2 : Hid (cameL l0 l1 l2 (ks.take (n + 1)) = cameL l0 l1 l2 (ks.take n)) := Lib.hid (by rw [HTC.out]; simp)
        have HTB2 : Hid (badL l0 l1 l2 (ks.take (n + 1)) = ins (badL l0 l1 l2 (ks.take n)) k 1) := Lib.hid (by rw [HTB.out, ins_new _ _ _ (bad_new l0 l1 l2 HNEW.out)]; rfl)
        go_wp2_with (at_mapUpdate; refine wp_update (M := mInt) (ev := Value.int .i64) rfl _ _ _ 68 rfl _ Try.underlying68 (w.heap.size + 2) (badL l0 l1 l2 (ks.take n)) k 1 rfl rfl rfl HMA.out HK1.out ?_; intro w6 hm6 ho6; have HM6 := Lib.hid hm6; have HJ6 := Lib.hid (HJA.out.only ho6 (by omega) (fun k hk => by omega)); have HB6 := Lib.hid (HBUA.out.only ho6 (.inl (.inr rfl))); clear hm6 ho6)
        go_roundw
        case rel => exact ⟨n + 1, cm, by omega, by go_num, HJ6.out, Lib.hid (by rw [HTC2.out]; exact hcm.out), by rw [HTB2.out]; exact HM6.out, HB6.out⟩
        case measure => simp [intOf]; omega
      · have HTC2 : Hid (cameL l0 l1 l2 (ks.take (n + 1)) = cameL l0 l1 l2 (ks.take n)) := Lib.hid (by rw [HTC.out]; simp)
        have HTB2 : Hid (badL l0 l1 l2 (ks.take (n + 1)) = ins (badL l0 l1 l2 (ks.take n)) k 2) := Lib.hid (by rw [HTB.out, ins_new _ _ _ (bad_new l0 l1 l2 HNEW.out)]; rfl)
        go_wp2_with (at_mapUpdate; refine wp_update (M := mInt) (ev := Value.int .i64) rfl _ _ _ 68 rfl _ Try.underlying68 (w.heap.size + 2) (badL l0 l1 l2 (ks.take n)) k 2 rfl rfl rfl HMA.out HK1.out ?_; intro w6 hm6 ho6; have HM6 := Lib.hid hm6; have HJ6 := Lib.hid (HJA.out.only ho6 (by omega) (fun k hk => by omega)); have HB6 := Lib.hid (HBUA.out.only ho6 (.inl (.inr rfl))); clear hm6 ho6)
        go_roundw
        case rel => exact ⟨n + 1, cm, by omega, by go_num, HJ6.out, Lib.hid (by rw [HTC2.out]; exact hcm.out), by rw [HTB2.out]; exact HM6.out, HB6.out⟩
        case measure => simp [intOf]; omega
    · have hcm2 : cm.map (fun x => (x.1, x.2.j)) = cameL l0 l1 l2 ks := by have := hcm.out; rwa [take_all hn hlt] at this
      have hm2 := HM.out
      rw [take_all hn hlt] at hm2
      have HF := Lib.hid (And.intro hcm2 hm2)
      have HJ2 : Hid (JMap wr (w.heap.size + 1) cm (fun k => w.heap.size ≤ k)) := Lib.hid ⟨HJ.out.map, fun x hx => tJn.mono (fun k _ hf => by omega) (HJ.out.jn x hx)⟩
      clear hcm2 hm2
      go_wp2_with fail
      refine bodyPost_ret (v := .tuple #[.map (some (w.heap.size + 1)), .map (some (w.heap.size + 2))]) (by simp [results, Try.results30, go_sem]) rfl ?_
      exact ⟨_, _, cm, rfl, HJ2.out, HF.out.1, HF.out.2, HBW.out⟩
end Go.Proofs.Ytogikjnfmcfbmaa
