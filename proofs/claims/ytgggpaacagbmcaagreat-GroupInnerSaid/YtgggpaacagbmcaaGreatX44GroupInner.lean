/- Plain: group.Inner's answer is the document's. -/
import Derived.Test.YtgggpaacagbmcaaGreatX43GroupInner
import Derived.Test.YtgggpaacagbmcaaGreatX14GroupInner
import Derived.Test.YtgggpaacagbmcaaGreatX39GroupInner
import Derived.Test.YtgggpaacagbmcaaGreatX29GroupInner
import Derived.Test.YtgggpaacagbmcaaGreatX20GroupInner
import Derived.Test.YtgggpaacagbmcaaGreatX41GroupInner
import Derived.Deep.RegionHeld3
set_option linter.unusedVariables false
set_option linter.unusedSimpArgs false
namespace Go.Proofs.YtgggpaacagbmcaaGreat
open Go.RowKit Go.Maps Go.Sort Go.Deep

theorem chk_peQ {J : List Jn} (hV : ValJ J) : ∀ x ∈ J, 0 ≤ x.pe := fun x hx => chk_pe (hV.ok x hx)
theorem allP_mem {ms : List Mb} {p : Int} {J : List Jn} (hV : ValJ J) {y : (Int × Int) × Int} (hy : y ∈ allP ms p J) : (∃ e f, y.1 = (e, f) ∧ e < f ∧ innB ms e = true ∧ innB ms f = true) ∧ -1000000000000000 ≤ y.2 ∧ y.2 ≤ 1000000000000000 := by
  obtain ⟨j, hj, hy⟩ := List.mem_flatMap.1 hy
  unfold jnP at hy
  split at hy
  · rename_i hb
    unfold jnB at hb
    simp at hb
    obtain ⟨hv, hpe, hin⟩ := hb
    unfold lnP at hy
    obtain ⟨x, hx, rfl⟩ := List.mem_map.1 hy
    obtain ⟨hx, hpar⟩ := List.mem_filter.1 hx
    have hl : x ∈ linesOf J j.en 0 p := by
      unfold linesOf
      refine List.mem_flatMap.2 ⟨j, List.mem_filter.2 ⟨hj, ?_⟩, hx⟩
      have := chk_peQ hV j hj
      simp [cnt, hv, this, hpe]
    have hne := lines_parE hV j.en 0 p x hl
    refine ⟨?_, linesOf_amt hV j.en 0 p x hl⟩
    unfold pkey
    rcases Int.le_total j.en x.par with h | h
    · refine ⟨j.en, x.par, by rw [Int.min_eq_left h, Int.max_eq_right h], by omega, hin, hpar⟩
    · refine ⟨x.par, j.en, by rw [Int.min_eq_right h, Int.max_eq_left h], by omega, hpar, hin⟩
  · simp at hy
theorem valQ_none {s : GsQ} {k : Int × Int} (h : k ∉ s.map (·.1)) : valQ s k = 0 := by
  unfold valQ look
  have : s.find? (fun x => decide (x.1 = k)) = none := by
    rw [List.find?_eq_none]
    intro x hx he
    simp only [decide_eq_true_eq] at he
    exact h (List.mem_map.2 ⟨x, hx, he⟩)
  rw [this]
  rfl
theorem srtF_rise {L : List F10} (h : (L.map zF).Nodup) : ((srtF L).map zF).Pairwise ltP := by
  have hn : L.Nodup := by
    rw [List.Nodup, List.pairwise_map] at h
    exact List.Pairwise.imp (fun hne e => hne (congrArg zF e)) h
  have h1 : (srtF L).Pairwise (fun x y => (!(ltOf cfF) y x) = true) := by
    unfold srtF
    refine List.pairwise_mergeSort (fun x y z h1 h2 => ?_) (fun x y => ?_) L
    · rw [ltF] at *; simp at *; omega
    · rw [ltF, ltF]; simp; omega
  have h2 : (srtF L).Nodup := (List.mergeSort_perm L _).nodup_iff.2 hn
  rw [List.pairwise_map]
  refine (h1.and h2).imp (fun {x y} ⟨a, b⟩ => ?_)
  have hlt : ltOf cfF x y = true := by
    cases hc : ltOf cfF x y with
    | true => rfl
    | false => exact absurd (totF x y hc (by simpa using a)) b
  rw [ltF] at hlt
  simp only [decide_eq_true_eq] at hlt
  unfold ltP zF
  simp only
  omega
theorem zF_toF {k : Int × Int} (h1 : 0 ≤ k.1) (h2 : k.1 ≤ 9) (h3 : 0 ≤ k.2) (h4 : k.2 ≤ 9) : zF (toF k) = k := by
  obtain ⟨a, b⟩ := k
  simp only at h1 h2 h3 h4
  unfold zF toF
  simp only [Fin.ofNat]
  rw [Prod.mk.injEq]
  constructor <;> omega
theorem inn_doc {ms : List Mb} (hg : grpB ms = true) {p : Int} {J : List Jn} (hV : ValJ J) (hl : J.length ≤ 100) :
    ∃ L : List F10, (accQ [] (allP ms p J)).map (·.1) = L.map zF ∧ L.length ≤ 1000 ∧ innT ms p J ((srtF L).map zF) = docI ms p J := by
  obtain ⟨hb9, hrise⟩ := grpB_riseQ hg
  have hlen := allP_len ms p hV.good
  have hval := accQ_sum _ (allP ms p J) rfl (by omega) (fun y hy => (allP_mem hV hy).2)
  have hacl := accQ_len (allP ms p J) []
  have hin : ∀ {e : Int}, innB ms e = true → 0 < e ∧ e ≤ 9 := fun h => by
    obtain ⟨m, hm, rfl⟩ := innB_iff.1 h
    exact hb9 m hm
  have hkey : ∀ k ∈ (accQ [] (allP ms p J)).map (·.1), k ∈ prs ms := fun k hk => by
    rcases accQ_keys _ _ _ hk with h | ⟨y, hy, rfl⟩
    · simp at h
    · obtain ⟨⟨e, f, he, hlt, h1, h2⟩, _⟩ := allP_mem hV hy
      rw [he]
      exact prs_of hrise hlt h1 h2
  have hdoc : ∀ k ∈ prs ms, valQ (accQ [] (allP ms p J)) k = docS p J k := fun k hk => by
    obtain ⟨h1, h2⟩ := prs_mem hk
    have h3 := (prs_rise hrise).2 k hk
    rw [hval]
    exact allP_sum ms p h3 h1 h2 (chk_peQ hV)
  have hnd : ((accQ [] (allP ms p J)).map (·.1)).Nodup := by
    have : ∀ (ps : List ((Int × Int) × Int)) (s : GsQ), (s.map (·.1)).Nodup → ((accQ s ps).map (·.1)).Nodup := by
      intro ps
      induction ps with
      | nil => intro s h; exact h
      | cons y r ih => intro s h; exact ih _ (ins_once h _ _)
    exact this _ _ (by simp)
  have hI : ∀ ks, innT ms p J ks = if ks.all (fun k => fitsB (valQ (accQ [] (allP ms p J)) k)) then (ks.flatMap (trioK (accQ [] (allP ms p J))), 0) else ([], 2) := fun ks => rfl
  generalize accQ [] (allP ms p J) = s at *
  have hz : s.map (·.1) = ((s.map (·.1)).map toF).map zF := by
    rw [List.map_map]
    refine Eq.trans (List.map_id _).symm (List.map_congr_left (fun k hk => ?_))
    obtain ⟨h1, h2⟩ := prs_mem (hkey k hk)
    obtain ⟨a1, a2⟩ := hin h1
    obtain ⟨b1, b2⟩ := hin h2
    exact (zF_toF (by omega) a2 (by omega) b2).symm
  refine ⟨(s.map (·.1)).map toF, hz, by rw [List.length_map, List.length_map]; simp only [List.length_nil] at hacl; omega, ?_⟩
  have hks : ∀ k, k ∈ (srtF ((s.map (·.1)).map toF)).map zF ↔ k ∈ s.map (·.1) := fun k => by
    conv => rhs; rw [hz]
    constructor
    · intro h
      obtain ⟨x, hx, rfl⟩ := List.mem_map.1 h
      exact List.mem_map.2 ⟨x, (List.mergeSort_perm _ _).mem_iff.1 hx, rfl⟩
    · intro h
      obtain ⟨x, hx, rfl⟩ := List.mem_map.1 h
      exact List.mem_map.2 ⟨x, (List.mergeSort_perm _ _).mem_iff.2 hx, rfl⟩
  have hri := srtF_rise (L := (s.map (·.1)).map toF) (by rw [← hz]; exact hnd)
  obtain ⟨ks, hk0⟩ : ∃ ks, (srtF ((s.map (·.1)).map toF)).map zF = ks := ⟨_, rfl⟩
  rw [hk0] at hks hri ⊢
  have hall : ks.all (fun k => fitsB (valQ s k)) = (prs ms).all (fun k => fitsB (docS p J k)) := by
    rw [Bool.eq_iff_iff, List.all_eq_true, List.all_eq_true]
    constructor
    · intro h k hk
      rw [← hdoc k hk]
      by_cases hm : k ∈ s.map (·.1)
      · exact h k ((hks k).2 hm)
      · rw [valQ_none hm]
        rfl
    · intro h k hk
      have := hkey k ((hks k).1 hk)
      rw [hdoc k this]
      exact h k this
  have hflat : ks.flatMap (trioK s) = (prs ms).flatMap (trioD p J) := by
    refine trio_ext (flat_trio (fun k x hx => ?_) (fun k => ?_) hri) (flat_trio (fun k x hx => ?_) (fun k => ?_) (prs_rise hrise).1) (fun x => ?_)
    · unfold trioK at hx
      split at hx
      · simp at hx
      · rw [List.mem_singleton.1 hx]
        exact ⟨rfl, rfl⟩
    · unfold trioK
      split <;> simp
    · unfold trioD at hx
      split at hx
      · simp at hx
      · rw [List.mem_singleton.1 hx]
        exact ⟨rfl, rfl⟩
    · unfold trioD
      split <;> simp
    · rw [List.mem_flatMap, List.mem_flatMap]
      have hsame : ∀ k ∈ prs ms, trioK s k = trioD p J k := fun k hk => by
        unfold trioK trioD
        rw [hdoc k hk]
      constructor
      · rintro ⟨k, hk, hx⟩
        have := hkey k ((hks k).1 hk)
        exact ⟨k, this, by rw [← hsame k this]; exact hx⟩
      · rintro ⟨k, hk, hx⟩
        rw [← hsame k hk] at hx
        refine ⟨k, (hks k).2 ?_, hx⟩
        refine Classical.byContradiction fun hm => ?_
        unfold trioK at hx
        rw [valQ_none hm] at hx
        simp at hx
  rw [hI, hall, hflat]
  rfl
end Go.Proofs.YtgggpaacagbmcaaGreat


/- group.Inner of members, of a period, that may not be; of all. -/
set_option linter.unusedVariables false
set_option linter.unusedSimpArgs false
namespace Go.Proofs.YtgggpaacagbmcaaGreat
open Go.RowKit Go.Maps Go.Deep

set_option maxHeartbeats 4000000 in
set_option maxRecDepth 100000 in
theorem grInnerF_bad {w : World} {g : Nat} {p : Int} {ma : Option Addr} {ms : List Mb} {mc : Nat} (hbad : grpB ms = false ∨ monthOk p = false) (hp : I64 p) {G : Nat → Prop} (hms : Sl tMb w G ma ms) (hml : ms.length ≤ maxLen) :
    Calls Tryz.prog 18 #[.pointer (some ⟨g, 0, none⟩), .int .i64 p, .slice ma ms.length mc] w (InnPost w ([], 1)) := by
  have HCK := Lib.hid (grCheck_any ms ma mc w hms hml)
  have HP := Lib.hid hp
  clear hms hp
  cases hgb : grpB ms
  · rw [hgb] at HCK
    clear hbad hgb
    go_enter Tryz.func18, Tryz.ntmps18
    go_wp2_with fail
    refine HCK.out.mono ?_
    rintro en w1 ⟨rfl, hb⟩
    have HB1 := Lib.hid hb
    clear hb HCK
    go_wp2_with fail
    go_ret2
    exact ⟨_, rfl, OwnL.nil _ _, HB1.out⟩
  · have hmo : monthOk p = false := by
      rcases hbad with h | h
      · rw [hgb] at h; cases h
      · exact h
    rw [hgb] at HCK
    clear hbad hgb
    go_enter Tryz.func18, Tryz.ntmps18
    go_wp2_with fail
    refine HCK.out.mono ?_
    rintro en w1 ⟨rfl, hb⟩
    have HB1 := Lib.hid (hb.alloc hb.size (.cells #[.int .i64 p] 3))
    have HN1 := Lib.hid (blk_new w1 (.cells #[.int .i64 p] 3))
    clear hb HCK
    go_wp2_with fail
    refine (term_valid_is p _ _ HN1.out HP.out hmo).mono ?_
    rintro en w2 ⟨rfl, hb⟩
    have HB2 := Lib.hid (belows_then HB1.out HB1.out.size hb)
    clear hb hmo HB1 HN1
    go_wp2_with fail
    go_ret2
    exact ⟨_, rfl, OwnL.nil _ _, HB2.out⟩
/-- group.Inner where it may be asked: the document's answer -/
theorem grInner_doc {w : World} {g : Nat} {p : Int} {ma : Option Addr} {ms : List Mb} {mc : Nat} (hgb : grpB ms = true) (hmo : monthOk p = true) (hp : I64 p)
    {G : Nat → Prop} (hms : Sl tMb w G ma ms) {a : Option Addr} {cap : Nat} {l : List Jn} {F : Nat → Prop} (hbk : BookAt w g a cap l F) (hl : l.length ≤ 100) (hV : ValJ l) :
    Calls Tryz.prog 18 #[.pointer (some ⟨g, 0, none⟩), .int .i64 p, .slice ma ms.length mc] w (InnPost w (docI ms p l)) := by
  obtain ⟨L, h1, h2, h3⟩ := inn_doc hgb (p := p) hV hl
  have := grInnerF_any hgb hmo hp hms hbk hl hV.good L h1 h2 (mc := mc)
  rwa [h3] at this
end Go.Proofs.YtgggpaacagbmcaaGreat


/- variorumbook: SameTrios of lists that are alike. -/
set_option linter.unusedVariables false
set_option linter.unusedSimpArgs false
namespace Go.Proofs.YtgggpaacagbmcaaGreat
open Go.RowKit Go.Maps Go.Deep

theorem trio_at {w : World} {F : Nat → Prop} {a : Option Addr} {l : List (Int × Int × Int)} (h : Sl tA3 w F a l) (i : Nat) (hi : i < l.length) :
    ∃ ad, a = some ad ∧ ad.block < w.heap.size ∧ w.cell? (ad.add (i * 3)) = some (.int .i64 l[i].1) ∧ w.cell? ⟨(ad.add (i * 3)).block, (ad.add (i * 3)).off + 1, none⟩ = some (.int .i64 l[i].2.1) ∧ w.cell? ⟨(ad.add (i * 3)).block, (ad.add (i * 3)).off + 2, none⟩ = some (.int .i64 l[i].2.2) := by
  obtain ⟨ad, ces, rfl, hf, hlt, hc, rfl, h1, h2, h3⟩ := h i l[i] (List.getElem?_eq_getElem hi)
  rw [show tA3.n = 3 from rfl] at hc
  refine ⟨ad, rfl, hlt, ?_, ?_, ?_⟩
  · have := hc 0 _ rfl
    simpa [Addr.add] using this
  · have := hc 1 _ rfl
    rw [Addr.add] at this
    simpa using this
  · have := hc 2 _ rfl
    rw [Addr.add] at this
    simpa using this
theorem eq_trio (x y z : Int) (w : World) : (Op.equalIn 10000 75 (.agg #[.int .i64 x, .int .i64 y, .int .i64 z]) (.agg #[.int .i64 x, .int .i64 y, .int .i64 z])).run Tryz.prog w = .ok true w := by
  obtain ⟨i0, hi, _⟩ := info_parts infoInt
  have hc : Tryz.prog.cellsOf 3 = 1 := by kernel_rfl
  rw [show (10000 : Nat) = 9999 + 1 from rfl, run_equalIn_array w 9999 _ _ Tryz.underlying75 hi, hc]
  simp only [List.range, List.range.loop, Op.eqItems]
  simp [go_sem]

set_option maxHeartbeats 4000000 in
set_option maxRecDepth 100000 in
theorem sameTrio_is (l : List (Int × Int × Int)) (a b : Option Addr) (ca cb : Nat) (w : World) {F G : Nat → Prop} (hs : Sl tA3 w F a l) (ht : Sl tA3 w G b l) (hl : l.length ≤ maxLen) :
    Calls Tryz.prog 21 #[.slice a l.length ca, .slice b l.length cb] w fun e w' => e = .returned (.bool true) ∧ Below w.heap.size w w' := by
  have HS := Lib.hid hs
  have HT := Lib.hid ht
  have hl' : l.length ≤ 9223372036854775807 := by unfold maxLen at hl; omega
  clear hs ht hl
  go_enter Tryz.func21, Tryz.ntmps21
  go_wp2_with fail
  go_loopw [5] (fun vi wr => ∃ n : Nat, n ≤ l.length ∧ vi = .int .i64 n ∧ Below w.heap.size w wr) (fun vi _ => l.length - (Go.RowKit.intOf vi).toNat)
  case atStart => exact ⟨0, Nat.zero_le _, rfl, Below.refl _ _⟩
  case round =>
    obtain ⟨n, hn, rfl, hb⟩ := hrel
    have HB := Lib.hid hb
    clear hb
    by_cases hlt : n < l.length
    · obtain ⟨ad, rfl, hadl, hc0, hc1, hc2⟩ := trio_at (Sl.keep (fun k hk _ => HB.out.block k hk) HS.out) n hlt
      obtain ⟨bd, rfl, hbdl, hd0, hd1, hd2⟩ := trio_at (Sl.keep (fun k hk _ => HB.out.block k hk) HT.out) n hlt
      generalize l[n] = x at *
      obtain ⟨x1, x2, x3⟩ := x
      simp only at hc0 hc1 hc2 hd0 hd1 hd2
      have heq := fun W => eq_trio x1 x2 x3 W
      go_wp2_with fail
      go_quiet (fail)
      go_wp2_with fail
      go_roundw
      case rel => exact ⟨n + 1, by omega, by go_num, below_drewN HB.out _⟩
      case measure => simp [Go.RowKit.intOf]; omega
    · go_wp2_with fail
      go_ret
      exact ⟨rfl, HB.out⟩
end Go.Proofs.YtgggpaacagbmcaaGreat


/- law 14's refs: the members as the document has them. -/
set_option linter.unusedVariables false
set_option linter.unusedSimpArgs false
namespace Go.Proofs.YtgggpaacagbmcaaGreat
open Go.RowKit Go.Maps Go.Deep

theorem infoRm : (Tryz.prog.info? 90).map (fun i => (i.zero, i.size, i.bytes)) = some (some (.agg #[.int .i64 0, .int .i64 0, .int .i64 0, .int .i64 0, .int .i64 0]), 5, 40) := by kernel_rfl
set_option maxHeartbeats 8000000 in
set_option maxRecDepth 100000 in
theorem refs_any (l : List Mb) (a : Option Addr) (cap : Nat) (w : World) {F : Nat → Prop} (hs : Sl tMb w F a l) (hl : l.length ≤ 1000) :
    Calls Tryz.prog 9 #[.slice a l.length cap] w fun e w' => ∃ v, e = .returned v ∧ OwnL tRm w' w.heap.size v l ∧ Below w.heap.size w w' := by
  have HS := Lib.hid hs
  clear hs
  obtain ⟨i0, hi, hz0, hz1, hz2⟩ := info_parts infoRm
  go_enter Tryz.func9, Tryz.ntmps9
  go_wp2_with fail
  go_loopw [3, 4] (fun vo vi wr => ∃ (n : Nat) (vx : Value), vx = vo ∧ n ≤ l.length ∧ vi = .int .i64 n ∧ OwnL tRm wr w.heap.size vx (l.take n) ∧ Below w.heap.size w wr) (fun _ vi _ => l.length - (Go.RowKit.intOf vi).toNat)
  case atStart => exact ⟨0, _, rfl, Nat.zero_le _, rfl, OwnL.nil _ _, Below.refl _ _⟩
  case round =>
    obtain ⟨n, vo, rfl, hn, rfl, ho, hb⟩ := hrel
    have HO := Lib.hid ho
    have HB := Lib.hid hb
    clear ho hb
    by_cases hlt : n < l.length
    · obtain ⟨ad, rfl, _, hadl, hc0, hc1, hc2, hc3, hc4, hwf⟩ := mb_at HS.out n hlt
      have HTS : Hid (l.take (n + 1) = l.take n ++ [l[n]]) := Lib.hid (List.take_succ_eq_append_getElem hlt)
      have hnl : (l.take n).length ≤ 1000 := by rw [List.length_take]; omega
      obtain ⟨X, hX⟩ : ∃ X, l.take n = X := ⟨_, rfl⟩
      rw [hX] at HO HTS hnl
      clear hX
      generalize l[n] = m at *
      obtain ⟨en, sh, cl, av, ol⟩ := m
      simp only at hc0 hc1 hc2 hc3 hc4
      have HWF := Lib.hid hwf
      have HOA : Hid (OwnL tRm ((wr.alloc (.cells #[.int .i64 en, .int .i64 sh, .int .i64 cl, .int .i64 av, .int .i64 ol] 90)).drew) w.heap.size vo X) := Lib.hid ((HO.out.alloc (.cells #[.int .i64 en, .int .i64 sh, .int .i64 cl, .int .i64 av, .int .i64 ol] 90)).keep (Nat.le_refl _) (fun _ _ => rfl))
      have HBA := Lib.hid ((HB.out.alloc HB.out.size (.cells #[.int .i64 en, .int .i64 sh, .int .i64 cl, .int .i64 av, .int .i64 ol] 90)).drew)
      have hbn : (wr.alloc (.cells #[.int .i64 en, .int .i64 sh, .int .i64 cl, .int .i64 av, .int .i64 ol] 90)).drew.heap[wr.heap.size]? = _ := blk_new wr (.cells #[.int .i64 en, .int .i64 sh, .int .i64 cl, .int .i64 av, .int .i64 ol] 90)
      have HSP : Hid (Sl tRm ((wr.alloc (.cells #[.int .i64 en, .int .i64 sh, .int .i64 cl, .int .i64 av, .int .i64 ol] 90)).drew) (fun kk => some kk ≠ vo.ownBlock ∧ kk < ((wr.alloc (.cells #[.int .i64 en, .int .i64 sh, .int .i64 cl, .int .i64 av, .int .i64 ol] 90)).drew).heap.size) (some ⟨wr.heap.size, 0, none⟩) [(⟨en, sh, cl, av, ol⟩ : Mb)]) := Lib.hid (sl_block [(⟨en, sh, cl, av, ol⟩ : Mb)] [mbC ⟨en, sh, cl, av, ol⟩] rfl (by simp; rfl) hbn ⟨fun e => by have := (HO.out.lt _ e.symm).2; exact absurd this (Nat.lt_irrefl _), blk_lt hbn⟩ (fun i c x hi hx => by
        match i, hi, hx with
        | 0, hi, hx => simp at hi hx; subst hi; subst hx; exact rm_mk _ HWF.out
        | i + 1, hi, hx => simp at hi))
      have HCE : Hid (∀ W, Below w.heap.size w W → (W.cell? (ad.add (n * 5)) = some (.int .i64 en) ∧ W.cell? ⟨(ad.add (n * 5)).block, (ad.add (n * 5)).off + 1, none⟩ = some (.int .i64 sh) ∧ W.cell? ⟨(ad.add (n * 5)).block, (ad.add (n * 5)).off + 2, none⟩ = some (.int .i64 cl) ∧ W.cell? ⟨(ad.add (n * 5)).block, (ad.add (n * 5)).off + 2 + 1, none⟩ = some (.int .i64 av) ∧ W.cell? ⟨(ad.add (n * 5)).block, (ad.add (n * 5)).off + 2 + 2, none⟩ = some (.int .i64 ol))) := Lib.hid (fun W hb => by
        have hbk : W.heap[(ad.add (n * 5)).block]? = w.heap[(ad.add (n * 5)).block]? := by rw [add_block]; exact hb.block _ hadl
        exact ⟨by rw [← hc0]; exact World.cell?_of_block (w := w) hbk, by rw [← hc1]; exact World.cell?_of_block (w := w) hbk, by rw [← hc2]; exact World.cell?_of_block (w := w) hbk, by rw [← hc3]; exact World.cell?_of_block (w := w) hbk, by rw [← hc4]; exact World.cell?_of_block (w := w) hbk⟩)
      have HBD : Hid (Below w.heap.size w wr.drew) := Lib.hid HB.out.drew
      have h63 : X.length + [(⟨en, sh, cl, av, ol⟩ : Mb)].length ≤ maxLen := by simp only [List.length_cons, List.length_nil]; unfold maxLen; omega
      have hby : (X.length + [(⟨en, sh, cl, av, ol⟩ : Mb)].length) * 40 ≤ 140737488355328 := by simp only [List.length_cons, List.length_nil]; omega
      clear hc0 hc1 hc2 hc3 hc4 hwf hbn
      go_wp2_with fail
      go_region_held3 (fun w' => w'.cell? (ad.add (n * 5)) = some (.int .i64 en) ∧ w'.cell? ⟨(ad.add (n * 5)).block, (ad.add (n * 5)).off + 1, none⟩ = some (.int .i64 sh) ∧ w'.cell? ⟨(ad.add (n * 5)).block, (ad.add (n * 5)).off + 2, none⟩ = some (.int .i64 cl) ∧ w'.cell? ⟨(ad.add (n * 5)).block, (ad.add (n * 5)).off + 2 + 1, none⟩ = some (.int .i64 av) ∧ w'.cell? ⟨(ad.add (n * 5)).block, (ad.add (n * 5)).off + 2 + 2, none⟩ = some (.int .i64 ol)) (first | with_reducible exact HCE.out _ HB6.out | with_reducible exact HCE.out _ HBA.out | with_reducible exact HCE.out _ HBD.out) ((refine step_app (T := tRm) rfl (.tmp 11) (.tmp 42) 31 rfl i0 (.agg #[.int .i64 0, .int .i64 0, .int .i64 0, .int .i64 0, .int .i64 0]) 40 Tryz.underlying31 hi hz0 hz1 hz2 rfl (by decide) rm_one w.heap.size vo X (by simp [Act.eval, Act.put]) HOA.out ⟨wr.heap.size, 0, none⟩ 1 [(⟨en, sh, cl, av, ol⟩ : Mb)] (by simp [Act.eval, Act.put]) HSP.out h63 hby HBA.out.size ?_; intro v6 w6 hown hg hat; have HO6 := Lib.hid hown; have HB6 := Lib.hid (Below.grown HBA.out hg HBA.out.size (fun k e => (HOA.out.lt k e).1)); clear hown hg hat))
      all_goals
        go_wp2_with fail
        go_roundw
        case rel => exact ⟨n + 1, _, rfl, by omega, by go_num, by rw [HTS.out]; exact HO6.out, HB6.out⟩
        case measure => simp [Go.RowKit.intOf]; omega
    · have HL : Hid (l.take n = l) := Lib.hid (take_all hn hlt)
      have ho := HO.out
      rw [HL.out] at ho
      have HOW := Lib.hid ho
      clear ho
      go_wp2_with fail
      go_ret
      exact ⟨_, rfl, HOW.out, HB.out⟩
end Go.Proofs.YtgggpaacagbmcaaGreat
