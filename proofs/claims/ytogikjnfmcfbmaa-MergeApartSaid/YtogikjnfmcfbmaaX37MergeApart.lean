/- law 16: Changed: any journals, any changes, any others. -/
import Derived.Test.YtogikjnfmcfbmaaX35MergeApart
import Derived.Test.YtogikjnfmcfbmaaX36MergeApart
import Derived.Laws.IdiomStrings
set_option linter.unusedVariables false
set_option linter.unusedSimpArgs false
namespace Go.Proofs.Ytogikjnfmcfbmaa
open Go.RowKit Go.Maps

def Ed.mk' (x : Int × Int × Int × Unit) : Ed := ⟨x.1, x.2.1, x.2.2.1⟩
def fEd : Flds Try.prog [fld "Id" 3 0 0, fld "How" 3 1 8, fld "N" 3 2 16] 0 (Int × Int × Int × Unit) :=
  Flds.cons (f := fld "Id" 3 0 0) tInt rfl (Flds.cons (f := fld "How" 3 1 8) tInt rfl (Flds.cons (f := fld "N" 3 2 16) tInt rfl (Flds.nil _ _)))
def tEd : Ty Try.prog 92 Ed := (Ty.struct Try.underlying92 fEd (by kernel_rfl)).map Ed.mk'
def tEds : Ty Try.prog 23 (List Ed) := Ty.slice Try.underlying23 (by kernel_rfl) tEd (by decide)
theorem tEd_n : tEd.n = 3 := rfl
theorem ed_inv {w : World} {F : Nat → Prop} {cs : List Value} {o : Ed} (h : tEd.R w F cs o) : cs = [.int .i64 o.id, .int .i64 o.how, .int .i64 o.n] ∧ I64 o.id ∧ I64 o.how ∧ I64 o.n := by
  obtain ⟨x, rfl, c1, c2, rfl, ⟨rfl, h1⟩, c3, c4, rfl, ⟨rfl, h2⟩, c5, c6, rfl, ⟨rfl, h3⟩, rfl⟩ := h
  exact ⟨rfl, h1, h2, h3⟩
theorem ed_at {w : World} {F : Nat → Prop} {a : Option Addr} {l : List Ed} (h : Sl tEd w F a l) (i : Nat) (hi : i < l.length) :
    ∃ ad, a = some ad ∧ F ad.block ∧ ad.block < w.heap.size ∧ w.cell? (ad.add (i * 3)) = some (.int .i64 l[i].id) ∧ w.cell? ⟨(ad.add (i * 3)).block, (ad.add (i * 3)).off + 1, none⟩ = some (.int .i64 l[i].how) ∧
      w.cell? ⟨(ad.add (i * 3)).block, (ad.add (i * 3)).off + 2, none⟩ = some (.int .i64 l[i].n) ∧ I64 l[i].id ∧ I64 l[i].how ∧ I64 l[i].n := by
  obtain ⟨ad, ces, rfl, hf, hlt, hc, hr⟩ := h i l[i] (List.getElem?_eq_getElem hi)
  obtain ⟨rfl, h1, h2, h3⟩ := ed_inv hr
  rw [tEd_n] at hc
  refine ⟨ad, rfl, hf, hlt, ?_, ?_, ?_, h1, h2, h3⟩
  · have := hc 0 _ rfl
    simpa [Addr.add] using this
  · have := hc 1 _ rfl
    rw [Addr.add] at this
    simpa using this
  · have := hc 2 _ rfl
    rw [Addr.add] at this
    simpa using this

theorem ed_succ (es : List Ed) (n : Nat) (hn : n < es.length) (s : Jn × Bool) : (es.take (n + 1)).foldl edStep s = edStep ((es.take n).foldl edStep s) es[n] := by
  rw [List.take_succ_eq_append_getElem hn, List.foldl_append]
  rfl
theorem ed_end (es : List Ed) (n : Nat) (h : n = es.length ∨ n = 20) (h20 : n ≤ 20) : es.take n = es.take 20 := by
  rcases h with rfl | rfl
  · rw [List.take_length, List.take_of_length_le h20]
  · rfl
theorem ch_len (es : List Ed) : ∀ (l O : List Jn), (l.foldl (chStep es) O).length ≤ O.length + l.length
  | [], O => by simp
  | j :: r, O => by
    rw [List.foldl_cons]
    refine Nat.le_trans (ch_len es r _) ?_
    have : (chStep es O j).length ≤ O.length + 1 := by
      unfold chStep
      split
      · exact putJ_len _ _
      · omega
    simp only [List.length_cons]
    omega
theorem mo_len : ∀ (l O : List Jn), (l.foldl moStep O).length ≤ O.length + l.length
  | [], O => by simp
  | j :: r, O => by
    rw [List.foldl_cons]
    refine Nat.le_trans (mo_len r _) ?_
    have : (moStep O j).length ≤ O.length + 1 := by
      unfold moStep
      split
      · exact putJ_len _ _
      · omega
    simp only [List.length_cons]
    omega
theorem ed_cases (x : Jn) (g : Bool) (a b c : Int) :
    ((a != x.id) = true ∧ edStep (x, g) ⟨a, b, c⟩ = (x, g)) ∨ (a != x.id) = false ∧
      ((b == 1) = true ∧ edStep (x, g) ⟨a, b, c⟩ = (⟨x.id, x.en, mod20 c, x.ref, x.lines, x.void⟩, g) ∨ (b == 1) = false ∧
      ((b == 2) = true ∧ edStep (x, g) ⟨a, b, c⟩ = (⟨x.id, x.en, x.pe, x.ref, x.lines, true⟩, g) ∨ (b == 2) = false ∧
      ((b == 3) = true ∧ edStep (x, g) ⟨a, b, c⟩ = (x, true) ∨ (b == 3) = false ∧
      ((b == 4) = true ∧ edStep (x, g) ⟨a, b, c⟩ = (⟨x.id, x.en, x.pe, x.ref, [⟨1, mod9 c, 0⟩, ⟨2, -mod9 c, 0⟩], x.void⟩, g) ∨ (b == 4) = false ∧
      ((b == 5) = true ∧ edStep (x, g) ⟨a, b, c⟩ = (⟨x.id, x.en, x.pe, ⟨#[(mod5b c).toNat.toUInt8]⟩, x.lines, x.void⟩, g) ∨ (b == 5) = false ∧ edStep (x, g) ⟨a, b, c⟩ = (x, g)))))) := by
  unfold edStep
  simp only
  cases h0 : (a != x.id)
  · cases h1 : (b == 1)
    · cases h2 : (b == 2)
      · cases h3 : (b == 3)
        · cases h4 : (b == 4)
          · cases h5 : (b == 5) <;> simp
          · simp
        · simp
      · simp
    · simp
  · simp
theorem i64_of {n : Int} (h1 : -9223372036854775808 ≤ n) (h2 : n ≤ 9223372036854775807) : I64 n := by
  unfold I64 Lit.wf
  simp [IntKind.min, IntKind.max, IntKind.bits, IntKind.signed]
  omega
theorem tmod_bd (n k : Int) (hk : 0 < k) : -k < n.tmod k ∧ n.tmod k < k := ⟨Int.lt_tmod_of_pos n hk, Int.tmod_lt_of_pos n hk⟩
theorem mod20_is (n : Int) : ∃ p, (wrap64 (n.tmod 20 + 20)).tmod 20 = p ∧ p = mod20 n ∧ I64 p := by
  refine ⟨_, rfl, ?_, ?_⟩
  · have := tmod_bd n 20 (by decide)
    have h3 : wrap64 (n.tmod 20 + 20) = n.tmod 20 + 20 := by unfold wrap64; omega
    rw [h3]
    rfl
  · have := tmod_bd (wrap64 (n.tmod 20 + 20)) 20 (by decide)
    exact i64_of (by omega) (by omega)
theorem mod9_is (n : Int) : ∃ q q1, (wrap64 (n.tmod 9 + 9)).tmod 9 = q ∧ wrap64 (1 + q) = q1 ∧ wrap64 (-q1) = -q1 ∧ q1 = mod9 n ∧ I64 q1 ∧ I64 (-q1) := by
  have := tmod_bd n 9 (by decide)
  have h3 : wrap64 (n.tmod 9 + 9) = n.tmod 9 + 9 := by unfold wrap64; omega
  have h4 := tmod_bd (n.tmod 9 + 9) 9 (by decide)
  have h5 : wrap64 (1 + (n.tmod 9 + 9).tmod 9) = 1 + (n.tmod 9 + 9).tmod 9 := by unfold wrap64; omega
  refine ⟨_, _, rfl, rfl, ?_⟩
  rw [h3, h5]
  exact ⟨by unfold wrap64; omega, rfl, i64_of (by omega) (by omega), i64_of (by omega) (by omega)⟩
theorem mod5_is (n : Int) : ∃ q q1, (wrap64 (n.tmod 5 + 5)).tmod 5 = q ∧ wrap64 (65 + q) = q1 ∧ q1 = mod5b n ∧ 65 ≤ q1 ∧ q1 ≤ 69 := by
  have := tmod_bd n 5 (by decide)
  have h3 : wrap64 (n.tmod 5 + 5) = n.tmod 5 + 5 := by unfold wrap64; omega
  have h4 := tmod_bd (n.tmod 5 + 5) 5 (by decide)
  have h6 : 0 ≤ (n.tmod 5 + 5).tmod 5 := by rw [Int.tmod_eq_emod_of_nonneg (by omega)]; omega
  have h5 : wrap64 (65 + (n.tmod 5 + 5).tmod 5) = 65 + (n.tmod 5 + 5).tmod 5 := by unfold wrap64; omega
  refine ⟨_, _, rfl, rfl, ?_⟩
  rw [h3, h5]
  exact ⟨rfl, by omega, by omega⟩
theorem cv_byte (w : World) (q : Int) (h1 : 65 ≤ q) (h2 : q ≤ 69) : (convert 93 9 (.slice (some ⟨w.heap.size, 0, none⟩) 1 1)).run Try.prog (w.alloc (.cells #[.int .u8 (q % 256)] 5)) = .ok (.string ⟨#[q.toNat.toUInt8]⟩) (w.alloc (.cells #[.int .u8 (q % 256)] 5)) := by
  have hb : ((q.toNat.toUInt8).toNat : Int) = q % 256 := by
    have : (q.toNat.toUInt8).toNat = q.toNat % 256 := by simp
    rw [this]
    omega
  have h := run_convert_bytes_back (P := Try.prog) (w.alloc (.cells #[.int .u8 (q % 256)] 5)) 93 9 5 ⟨w.heap.size, 0, none⟩ 1 [q.toNat.toUInt8] Try.underlying93 Try.underlying5 Try.underlying9 (fun j hj => by
    have hj0 : j = 0 := by simpa using hj
    subst hj0
    simp only [List.getElem_cons_zero]
    rw [hb]
    simp [Addr.add])
  exact h
set_option maxHeartbeats 16000000 in
set_option maxRecDepth 100000 in
theorem changed_any (l : List Jn) (es : List Ed) (mo : List Jn) (a ea ma : Option Addr) (lc ec mc : Nat) (w : World) {F G H : Nat → Prop} (hs : Sl tJn w F a l) (hl : l.length ≤ 1000) (hne : ∀ j ∈ l, j.lines ≠ []) (he : Sl tEd w G ea es) (hel : es.length ≤ maxLen) (hm : Sl tJn w H ma mo) (hml : mo.length ≤ maxLen) :
    Calls Try.prog 28 #[.slice a l.length lc, .slice ea es.length ec, .slice ma mo.length mc] w fun e w' => ∃ v, e = .returned v ∧ OwnL tJn w' w.heap.size v (changedJ l es mo) ∧ Below w.heap.size w w' := by
  have HS := Lib.hid hs
  have HE := Lib.hid he
  have HM := Lib.hid hm
  have HNE := Lib.hid hne
  have hel' : es.length ≤ 9223372036854775807 := by unfold maxLen at hel; omega
  have hml' : mo.length ≤ 9223372036854775807 := by unfold maxLen at hml; omega
  clear hs he hm hne hel hml
  go_enter Try.func28, Try.ntmps28
  go_wp2_with fail
  go_loopw [7, 8] (fun vo vi wr => ∃ (n : Nat) (vx : Value), vx = vo ∧ n ≤ l.length ∧ vi = .int .i64 n ∧ OwnL tJn wr w.heap.size vx ((l.take n).foldl (chStep es) []) ∧ Below w.heap.size w wr) (fun _ vi _ => l.length - (intOf vi).toNat)
  case atStart => exact ⟨0, _, rfl, by omega, rfl, OwnL.nil _ _, Below.refl _ _⟩
  case round =>
    obtain ⟨n, vx, rfl, hn, rfl, ho, hb⟩ := hrel
    have hO := (rfl : (l.take n).foldl (chStep es) [] = (l.take n).foldl (chStep es) [])
    generalize hO' : (l.take n).foldl (chStep es) [] = O at ho
    clear hO
    have HOE := Lib.hid hO'
    have HO := Lib.hid ho
    have HB := Lib.hid hb
    have hlen : O.length ≤ 1000 := by rw [← hO']; exact Nat.le_trans (ch_len es _ []) (by simp; omega)
    obtain ⟨oa, oc, rfl, _, _, hos⟩ := ho.slice
    have HOS := Lib.hid hos
    clear ho hb hos hO'
    by_cases hlt : n < l.length
    · obtain ⟨ad, la, lc, rfl, _, hadl, hc0, hc1, hc2, hc3, hc4, hc5, hr⟩ := jn_at (Sl.keep (fun k hk _ => HB.out.block k hk) HS.out) n hlt
      have HR := Lib.hid hr
      have HNL := Lib.hid (HNE.out l[n] (List.getElem_mem hlt))
      have HN : Hid ((l.take (n + 1)).foldl (chStep es) [] = chStep es O l[n]) := Lib.hid (by rw [List.take_succ_eq_append_getElem hlt, List.foldl_append, HOE.out]; rfl)
      clear hr HOE
      generalize l[n] = j at *
      go_wp2_with fail
      refine (rcopy_any j la lc _ HR.out HNL.out).mono ?_
      rintro en w2 ⟨a2, c2, rfl, hb, hr2⟩
      have HB2 := Lib.hid (belows_then HB.out HB.out.size hb)
      have HO2 := Lib.hid (OwnL.below HO.out hb)
      have HOS2 : Hid (Sl tJn w2 (fun _ => True) oa O) := Lib.hid (Sl.keep (fun k hk _ => hb.block k hk) HOS.out)
      have HZ3 := Lib.hid (blk_new w2 (.cells #[.int .i64 j.id, .int .i64 j.en, .int .i64 j.pe, .string j.ref, .slice a2 j.lines.length c2, .bool j.void] 31))
      have HR3 := Lib.hid (tJn.keep (fun k hk _ => Below.heap_alloc w2 (.cells #[.int .i64 j.id, .int .i64 j.en, .int .i64 j.pe, .string j.ref, .slice a2 j.lines.length c2, .bool j.void] 31) k hk) hr2)
      have HE2 := Lib.hid (Sl.keep (fun k hk _ => HB2.out.block k hk) HE.out)
      clear hb hr2 hc0 hc1 hc2 hc3 hc4 hc5 hadl HO HOS HR HB
      go_wp2_with fail
      go_loopw [10, 11] (fun vg vk wi => ∃ (m : Nat) (x : Jn) (ax : Option Addr) (cx : Nat) (g : Bool), m ≤ es.length ∧ m ≤ 20 ∧ vk = .int .i64 m ∧ vg = .bool g ∧ (es.take m).foldl edStep (j, false) = (x, g) ∧ wi.heap[w2.heap.size]? = some (.cells #[.int .i64 x.id, .int .i64 x.en, .int .i64 x.pe, .string x.ref, .slice ax x.lines.length cx, .bool x.void] 31 (0, 0)) ∧ tJn.R wi (fun k => k ≠ w2.heap.size) (jcs x ax cx) x ∧ Below w2.heap.size w2 wi) (fun _ vk _ => es.length - (intOf vk).toNat)
      case atStart => exact ⟨0, j, a2, c2, false, by omega, by omega, rfl, rfl, rfl, HZ3.out, tJn.mono (fun k _ hf => (by have := hf.2; omega)) HR3.out, (Below.refl _ _).alloc (Nat.le_refl _) _⟩
      case round =>
        obtain ⟨m, x, ax, cx, g, hmn, hm20, rfl, rfl, hst, hc, hr, hb⟩ := hrel
        have HC := Lib.hid hc
        have HRC := Lib.hid hr
        have HBC := Lib.hid hb
        have HST := Lib.hid hst
        have hz9 := blk_cells hc
        have hzf9 := blk_frz hc
        have hzl9 := blk_lt hc
        clear hc hr hb hst
        by_cases hml2 : m < es.length
        · by_cases hm2 : m < 20
          · have hin : ((m : Int) < 20) := by omega
            obtain ⟨ed, rfl, _, hedl, he0, he1, he2, _, _, hi3⟩ := ed_at (Sl.keep (fun k hk _ => HBC.out.block k hk) HE2.out) m hml2
            have HSTN : Hid ((es.take (m + 1)).foldl edStep (j, false) = edStep (x, g) es[m]) := Lib.hid (by rw [ed_succ es m hml2, HST.out])
            generalize es[m] = e at *
            obtain ⟨ei, eh, en⟩ := e
            simp only at he0 he1 he2 hi3
            rcases ed_cases x g ei eh en with ⟨k0, hq⟩ | ⟨k0, ⟨k1, hq⟩ | ⟨k1, ⟨k2, hq⟩ | ⟨k2, ⟨k3, hq⟩ | ⟨k3, ⟨k4, hq⟩ | ⟨k4, ⟨k5, hq⟩ | ⟨k5, hq⟩⟩⟩⟩⟩⟩
            · have HQ := Lib.hid (HSTN.out.trans hq)
              clear hq
              go_wp2_with fail
              go_quiet (fail)
              go_wp2_with fail
              go_roundw
              case rel => exact ⟨m + 1, x, ax, cx, g, by omega, by omega, by go_num, rfl, HQ.out, blk_drew HC.out _, tJn.keep (fun k hk _ => rfl) HRC.out, below_drewN HBC.out _⟩
              case measure => simp [intOf]; omega
            · have HQ := Lib.hid (HSTN.out.trans hq)
              obtain ⟨p, hp, hpe, hpi⟩ := mod20_is en
              have HP := Lib.hid hpe
              have HPI := Lib.hid hpi
              clear hq hpe hpi
              go_wp2_with fail
              go_quiet (fail)
              go_wp2_with fail
              go_roundw
              case rel =>
                obtain ⟨h1, h2, _, h4, h5, h6, h7, h8⟩ := jcs_inv HRC.out
                have hset : ((wr.drewN nq).setCell ⟨w2.heap.size, 2, none⟩ (.int .i64 p)).heap[w2.heap.size]? = some (.cells #[.int .i64 (⟨x.id, x.en, p, x.ref, x.lines, x.void⟩ : Jn).id, .int .i64 (⟨x.id, x.en, p, x.ref, x.lines, x.void⟩ : Jn).en, .int .i64 (⟨x.id, x.en, p, x.ref, x.lines, x.void⟩ : Jn).pe, .string (⟨x.id, x.en, p, x.ref, x.lines, x.void⟩ : Jn).ref, .slice ax (⟨x.id, x.en, p, x.ref, x.lines, x.void⟩ : Jn).lines.length cx, .bool (⟨x.id, x.en, p, x.ref, x.lines, x.void⟩ : Jn).void] 31 (0, 0)) := blk_set (blk_drew HC.out _) 2 _
                exact ⟨m + 1, ⟨x.id, x.en, p, x.ref, x.lines, x.void⟩, ax, cx, g, by omega, by omega, by go_num, rfl, by rw [HQ.out, HP.out], hset, jn_mk ⟨x.id, x.en, p, x.ref, x.lines, x.void⟩ h1 h2 HPI.out h4 (Sl.keep (w := wr) (fun k hk hf => Below.heap_setCell _ _ _ k hf) h5) h6 h7 h8, (below_drewN HBC.out _).setCell (p := ⟨w2.heap.size, 2, none⟩) (Nat.le_refl _) _⟩
              case measure => simp [intOf]; omega
            · have HQ := Lib.hid (HSTN.out.trans hq)
              clear hq
              go_wp2_with fail
              go_quiet (fail)
              go_wp2_with fail
              go_roundw
              case rel =>
                obtain ⟨h1, h2, h3, h4, h5, h6, h7, h8⟩ := jcs_inv HRC.out
                have hset : ((wr.drewN nq).setCell ⟨w2.heap.size, 5, none⟩ (.bool true)).heap[w2.heap.size]? = some (.cells #[.int .i64 (⟨x.id, x.en, x.pe, x.ref, x.lines, true⟩ : Jn).id, .int .i64 (⟨x.id, x.en, x.pe, x.ref, x.lines, true⟩ : Jn).en, .int .i64 (⟨x.id, x.en, x.pe, x.ref, x.lines, true⟩ : Jn).pe, .string (⟨x.id, x.en, x.pe, x.ref, x.lines, true⟩ : Jn).ref, .slice ax (⟨x.id, x.en, x.pe, x.ref, x.lines, true⟩ : Jn).lines.length cx, .bool (⟨x.id, x.en, x.pe, x.ref, x.lines, true⟩ : Jn).void] 31 (0, 0)) := blk_set (blk_drew HC.out _) 5 _
                exact ⟨m + 1, ⟨x.id, x.en, x.pe, x.ref, x.lines, true⟩, ax, cx, g, by omega, by omega, by go_num, rfl, HQ.out, hset, jn_mk ⟨x.id, x.en, x.pe, x.ref, x.lines, true⟩ h1 h2 h3 h4 (Sl.keep (w := wr) (fun k hk hf => Below.heap_setCell _ _ _ k hf) h5) h6 h7 h8, (below_drewN HBC.out _).setCell (p := ⟨w2.heap.size, 5, none⟩) (Nat.le_refl _) _⟩
              case measure => simp [intOf]; omega
            · have HQ := Lib.hid (HSTN.out.trans hq)
              clear hq
              go_wp2_with fail
              go_quiet (fail)
              go_wp2_with fail
              go_roundw
              case rel => exact ⟨m + 1, x, ax, cx, true, by omega, by omega, by go_num, rfl, HQ.out, blk_drew HC.out _, tJn.keep (fun k hk _ => rfl) HRC.out, below_drewN HBC.out _⟩
              case measure => simp [intOf]; omega
            · have HQ := Lib.hid (HSTN.out.trans hq)
              obtain ⟨q, q1, hq0, hq1, hq2, hqe, hqi, hqj⟩ := mod9_is en
              rw [← hqe] at HQ
              have HQI := Lib.hid hqi
              have HQJ := Lib.hid hqj
              clear hq hqe hqi hqj
              go_wp2_with fail
              go_quiet (fail)
              have hzd : w2.heap.size < (wr.drewN nq).heap.size := hzl9
              have hz9d := blk_cells (blk_drew HC.out nq)
              have hzf9d := blk_frz (blk_drew HC.out nq)
              have hzA := blk_cells (blk_alloc (blk_drew HC.out nq) (.cells #[.int .i64 1, .int .i64 q1, .int .i64 0, .int .i64 2, .int .i64 (-q1), .int .i64 0] 61))
              have hzfA := blk_frz (blk_alloc (blk_drew HC.out nq) (.cells #[.int .i64 1, .int .i64 q1, .int .i64 0, .int .i64 2, .int .i64 (-q1), .int .i64 0] 61))
              go_wp2_with fail
              go_roundw
              case rel =>
                obtain ⟨h1, h2, h3, h4, _, _, _, _⟩ := jcs_inv HRC.out
                have hne9 : wr.heap.size ≠ w2.heap.size := by omega
                have hln : (((wr.drewN nq).alloc (.cells #[.int .i64 1, .int .i64 q1, .int .i64 0, .int .i64 2, .int .i64 (-q1), .int .i64 0] 61)).setCell ⟨w2.heap.size, 4, none⟩ (.slice (some ⟨wr.heap.size, 0, none⟩) 2 2)).heap[wr.heap.size]? = some (.cells #[.int .i64 1, .int .i64 q1, .int .i64 0, .int .i64 2, .int .i64 (-q1), .int .i64 0] 61 (0, 0)) := blk_far (blk_new (wr.drewN nq) (.cells #[.int .i64 1, .int .i64 q1, .int .i64 0, .int .i64 2, .int .i64 (-q1), .int .i64 0] 61)) (p := ⟨w2.heap.size, 4, none⟩) hne9 _
                have hset : (((wr.drewN nq).alloc (.cells #[.int .i64 1, .int .i64 q1, .int .i64 0, .int .i64 2, .int .i64 (-q1), .int .i64 0] 61)).setCell ⟨w2.heap.size, 4, none⟩ (.slice (some ⟨wr.heap.size, 0, none⟩) 2 2)).heap[w2.heap.size]? = some (.cells #[.int .i64 (⟨x.id, x.en, x.pe, x.ref, [⟨1, q1, 0⟩, ⟨2, -q1, 0⟩], x.void⟩ : Jn).id, .int .i64 (⟨x.id, x.en, x.pe, x.ref, [⟨1, q1, 0⟩, ⟨2, -q1, 0⟩], x.void⟩ : Jn).en, .int .i64 (⟨x.id, x.en, x.pe, x.ref, [⟨1, q1, 0⟩, ⟨2, -q1, 0⟩], x.void⟩ : Jn).pe, .string (⟨x.id, x.en, x.pe, x.ref, [⟨1, q1, 0⟩, ⟨2, -q1, 0⟩], x.void⟩ : Jn).ref, .slice (some ⟨wr.heap.size, 0, none⟩) (⟨x.id, x.en, x.pe, x.ref, [⟨1, q1, 0⟩, ⟨2, -q1, 0⟩], x.void⟩ : Jn).lines.length 2, .bool (⟨x.id, x.en, x.pe, x.ref, [⟨1, q1, 0⟩, ⟨2, -q1, 0⟩], x.void⟩ : Jn).void] 31 (0, 0)) := blk_set (blk_alloc (blk_drew HC.out _) _) 4 _
                exact ⟨m + 1, ⟨x.id, x.en, x.pe, x.ref, [⟨1, q1, 0⟩, ⟨2, -q1, 0⟩], x.void⟩, some ⟨wr.heap.size, 0, none⟩, 2, g, by omega, by omega, by go_num, rfl, HQ.out, hset, jn_mk ⟨x.id, x.en, x.pe, x.ref, [⟨1, q1, 0⟩, ⟨2, -q1, 0⟩], x.void⟩ h1 h2 h3 h4 (sl_lns2 ⟨1, q1, 0⟩ ⟨2, -q1, 0⟩ hln hne9 ⟨(show I64 1 by decide), HQI.out, (show I64 0 by decide)⟩ ⟨(show I64 2 by decide), HQJ.out, (show I64 0 by decide)⟩) (show (2 : Nat) ≤ 2 by decide) (show (2 : Nat) ≤ maxLen by decide) (by rw [line_bytes]; show (2 * 24 : Nat) ≤ 140737488351232; decide), ((below_drewN HBC.out _).alloc (Nat.le_of_lt hzl9) _).setCell (p := ⟨w2.heap.size, 4, none⟩) (Nat.le_refl _) _⟩
              case measure => simp [intOf]; omega
            · have HQ := Lib.hid (HSTN.out.trans hq)
              obtain ⟨q, q1, hq0, hq1, hqe, hqi, hqj⟩ := mod5_is en
              rw [← hqe] at HQ
              have HQI := Lib.hid hqi
              have HQJ := Lib.hid hqj
              clear hq hqe hqi hqj
              go_wp2_with fail
              go_quiet (fail)
              have hzd : w2.heap.size < (wr.drewN nq).heap.size := hzl9
              have hz9d := blk_cells (blk_drew HC.out nq)
              have hzf9d := blk_frz (blk_drew HC.out nq)
              have hcv : (convert 93 9 (.slice (some ⟨wr.heap.size, 0, none⟩) 1 1)).run Try.prog ((wr.drewN nq).alloc (.cells #[.int .u8 (q1 % 256)] 5)) = .ok (.string ⟨#[q1.toNat.toUInt8]⟩) ((wr.drewN nq).alloc (.cells #[.int .u8 (q1 % 256)] 5)) := cv_byte (wr.drewN nq) q1 HQI.out HQJ.out
              have hzA := blk_cells (blk_alloc (blk_drew HC.out nq) (.cells #[.int .u8 (q1 % 256)] 5))
              have hzfA := blk_frz (blk_alloc (blk_drew HC.out nq) (.cells #[.int .u8 (q1 % 256)] 5))
              go_wp2_with fail
              go_roundw
              case rel =>
                obtain ⟨h1, h2, h3, h4, h5, h6, h7, h8⟩ := jcs_inv HRC.out
                have hne9 : wr.heap.size ≠ w2.heap.size := by omega
                have hset : (((wr.drewN nq).alloc (.cells #[.int .u8 (q1 % 256)] 5)).setCell ⟨w2.heap.size, 3, none⟩ (.string ⟨#[q1.toNat.toUInt8]⟩)).heap[w2.heap.size]? = some (.cells #[.int .i64 (⟨x.id, x.en, x.pe, ⟨#[q1.toNat.toUInt8]⟩, x.lines, x.void⟩ : Jn).id, .int .i64 (⟨x.id, x.en, x.pe, ⟨#[q1.toNat.toUInt8]⟩, x.lines, x.void⟩ : Jn).en, .int .i64 (⟨x.id, x.en, x.pe, ⟨#[q1.toNat.toUInt8]⟩, x.lines, x.void⟩ : Jn).pe, .string (⟨x.id, x.en, x.pe, ⟨#[q1.toNat.toUInt8]⟩, x.lines, x.void⟩ : Jn).ref, .slice ax (⟨x.id, x.en, x.pe, ⟨#[q1.toNat.toUInt8]⟩, x.lines, x.void⟩ : Jn).lines.length cx, .bool (⟨x.id, x.en, x.pe, ⟨#[q1.toNat.toUInt8]⟩, x.lines, x.void⟩ : Jn).void] 31 (0, 0)) := blk_set (blk_alloc (blk_drew HC.out _) _) 3 _
                exact ⟨m + 1, ⟨x.id, x.en, x.pe, ⟨#[q1.toNat.toUInt8]⟩, x.lines, x.void⟩, ax, cx, g, by omega, by omega, by go_num, rfl, HQ.out, hset, jn_mk ⟨x.id, x.en, x.pe, ⟨#[q1.toNat.toUInt8]⟩, x.lines, x.void⟩ h1 h2 h3 (by show 1 ≤ _; decide) (Sl.keep (w := wr) (fun k hk hf => (Below.heap_setCell _ _ _ k hf).trans (Below.heap_alloc (wr.drewN nq) _ k hk)) h5) h6 h7 h8, ((below_drewN HBC.out _).alloc (Nat.le_of_lt hzl9) _).setCell (p := ⟨w2.heap.size, 3, none⟩) (Nat.le_refl _) _⟩
              case measure => simp [intOf]; omega
            · have HQ := Lib.hid (HSTN.out.trans hq)
              clear hq
              go_wp2_with fail
              go_quiet (fail)
              go_wp2_with fail
              go_roundw
              case rel => exact ⟨m + 1, x, ax, cx, g, by omega, by omega, by go_num, rfl, HQ.out, blk_drew HC.out _, tJn.keep (fun k hk _ => rfl) HRC.out, below_drewN HBC.out _⟩
              case measure => simp [intOf]; omega
          · have hm20' : m = 20 := by omega
            subst hm20'
            have HEND : Hid (edAll es j = (x, g)) := Lib.hid HST.out
            clear HST HE2 HR3 HZ3
            have HBX := Lib.hid (belows_then HB2.out HB2.out.size HBC.out)
            have HOX := Lib.hid (OwnL.below HO2.out HBC.out)
            have HOSX : Hid (Sl tJn wr (fun _ => True) oa O) := Lib.hid (Sl.keep (fun k hk _ => HBC.out.block k hk) HOS2.out)
            cases g
            · have HSL : Hid (Sl tLn wr (fun _ => True) ax x.lines) := Lib.hid (Sl.mono (fun _ _ _ => trivial) (jcs_inv HRC.out).2.2.2.2.1)
              generalize hp : postJ O x = p
              have HP := Lib.hid hp
              clear hp
              go_wp2_with fail
              refine (rpost_is O oa oc x ax cx _ HOSX.out (by unfold maxLen; omega) HSL.out HP.out).mono ?_
              rintro en w5 ⟨rfl, hb⟩
              have HC5 := Lib.hid (blk_below HC.out hb)
              have HR5 := Lib.hid (tJn.keep (fun k hk _ => hb.block k hk) HRC.out)
              have HB5 := Lib.hid (belows_then HBX.out HBX.out.size hb)
              have HO5 := Lib.hid (OwnL.below HOX.out hb)
              have HOS5 : Hid (Sl tJn w5 (fun _ => True) oa O) := Lib.hid (Sl.keep (fun k hk _ => hb.block k hk) HOSX.out)
              have hz5 := blk_cells HC5.out
              have hzl5 := blk_lt HC5.out
              clear hb hz9 hzl9 hzf9
              by_cases hp0 : p = 0
              · subst hp0
                go_wp2_with fail
                refine (rput_any O oa oc x ax cx w5 HOS5.out (by omega) HR5.out (post_ok_lines HP.out)).mono ?_
                rintro en w6 ⟨v6, rfl, ho, hb⟩
                have HNX : Hid ((l.take (n + 1)).foldl (chStep es) [] = putJ O x) := Lib.hid (by rw [HN.out]; unfold chStep; rw [HEND.out]; simp [HP.out])
                have HO6 := Lib.hid (ho.mono HB5.out.size)
                have HB6 := Lib.hid (belows_then HB5.out HB5.out.size hb)
                clear ho hb
                go_wp2_with fail
                go_roundw
                case rel => exact ⟨n + 1, _, rfl, by omega, by go_num, by rw [HNX.out]; exact HO6.out, HB6.out⟩
                case measure => simp [intOf]; omega
              · have hp1 : (p == 0) = false := by simpa using hp0
                have HNX : Hid ((l.take (n + 1)).foldl (chStep es) [] = O) := Lib.hid (by rw [HN.out]; unfold chStep; rw [HEND.out]; simp [HP.out, hp0])
                go_wp2_with fail
                go_roundw
                case rel => exact ⟨n + 1, _, rfl, by omega, by go_num, by rw [HNX.out]; exact HO5.out, HB5.out⟩
                case measure => simp [intOf]; omega
            · have HNX : Hid ((l.take (n + 1)).foldl (chStep es) [] = O) := Lib.hid (by rw [HN.out]; unfold chStep; rw [HEND.out]; simp)
              go_wp2_with fail
              go_roundw
              case rel => exact ⟨n + 1, _, rfl, by omega, by go_num, by rw [HNX.out]; exact HOX.out, HBX.out⟩
              case measure => simp [intOf]; omega
        · have hml3 : m = es.length := by omega
          have HEND : Hid (edAll es j = (x, g)) := Lib.hid (by unfold edAll; rw [← ed_end es m (.inl hml3) hm20]; exact HST.out)
          clear HST HE2 HR3 HZ3
          have HBX := Lib.hid (belows_then HB2.out HB2.out.size HBC.out)
          have HOX := Lib.hid (OwnL.below HO2.out HBC.out)
          have HOSX : Hid (Sl tJn wr (fun _ => True) oa O) := Lib.hid (Sl.keep (fun k hk _ => HBC.out.block k hk) HOS2.out)
          cases g
          · have HSL : Hid (Sl tLn wr (fun _ => True) ax x.lines) := Lib.hid (Sl.mono (fun _ _ _ => trivial) (jcs_inv HRC.out).2.2.2.2.1)
            generalize hp : postJ O x = p
            have HP := Lib.hid hp
            clear hp
            go_wp2_with fail
            refine (rpost_is O oa oc x ax cx _ HOSX.out (by unfold maxLen; omega) HSL.out HP.out).mono ?_
            rintro en w5 ⟨rfl, hb⟩
            have HC5 := Lib.hid (blk_below HC.out hb)
            have HR5 := Lib.hid (tJn.keep (fun k hk _ => hb.block k hk) HRC.out)
            have HB5 := Lib.hid (belows_then HBX.out HBX.out.size hb)
            have HO5 := Lib.hid (OwnL.below HOX.out hb)
            have HOS5 : Hid (Sl tJn w5 (fun _ => True) oa O) := Lib.hid (Sl.keep (fun k hk _ => hb.block k hk) HOSX.out)
            have hz5 := blk_cells HC5.out
            have hzl5 := blk_lt HC5.out
            clear hb hz9 hzl9 hzf9
            by_cases hp0 : p = 0
            · subst hp0
              go_wp2_with fail
              refine (rput_any O oa oc x ax cx w5 HOS5.out (by omega) HR5.out (post_ok_lines HP.out)).mono ?_
              rintro en w6 ⟨v6, rfl, ho, hb⟩
              have HNX : Hid ((l.take (n + 1)).foldl (chStep es) [] = putJ O x) := Lib.hid (by rw [HN.out]; unfold chStep; rw [HEND.out]; simp [HP.out])
              have HO6 := Lib.hid (ho.mono HB5.out.size)
              have HB6 := Lib.hid (belows_then HB5.out HB5.out.size hb)
              clear ho hb
              go_wp2_with fail
              go_roundw
              case rel => exact ⟨n + 1, _, rfl, by omega, by go_num, by rw [HNX.out]; exact HO6.out, HB6.out⟩
              case measure => simp [intOf]; omega
            · have hp1 : (p == 0) = false := by simpa using hp0
              have HNX : Hid ((l.take (n + 1)).foldl (chStep es) [] = O) := Lib.hid (by rw [HN.out]; unfold chStep; rw [HEND.out]; simp [HP.out, hp0])
              go_wp2_with fail
              go_roundw
              case rel => exact ⟨n + 1, _, rfl, by omega, by go_num, by rw [HNX.out]; exact HO5.out, HB5.out⟩
              case measure => simp [intOf]; omega
          · have HNX : Hid ((l.take (n + 1)).foldl (chStep es) [] = O) := Lib.hid (by rw [HN.out]; unfold chStep; rw [HEND.out]; simp)
            go_wp2_with fail
            go_roundw
            case rel => exact ⟨n + 1, _, rfl, by omega, by go_num, by rw [HNX.out]; exact HOX.out, HBX.out⟩
            case measure => simp [intOf]; omega
    · have HOA : Hid (l.foldl (chStep es) [] = O) := Lib.hid (by rw [← HOE.out, take_all hn hlt])
      have hlenO : O.length ≤ 1000 := hlen
      go_wp2_with fail
      go_loopw [7, 13] (fun vo vi wi => ∃ (m : Nat) (vx : Value), vx = vo ∧ m ≤ mo.length ∧ m ≤ 20 ∧ vi = .int .i64 m ∧ OwnL tJn wi w.heap.size vx ((mo.take m).foldl moStep O) ∧ Below w.heap.size w wi) (fun _ vi _ => mo.length - (intOf vi).toNat)
      case atStart => exact ⟨0, _, rfl, by omega, by omega, rfl, HO.out, HB.out⟩
      case round =>
        clear HO HB HOE HOS hlen hlt hn
        obtain ⟨m, vx, rfl, hmn, hm20, rfl, ho, hb⟩ := hrel
        generalize hO' : (mo.take m).foldl moStep O = O2 at ho
        have HOE := Lib.hid hO'
        have HO := Lib.hid ho
        have HB := Lib.hid hb
        have hlen : O2.length ≤ 1020 := by rw [← hO']; exact Nat.le_trans (mo_len _ O) (by simp; omega)
        obtain ⟨oa, oc, rfl, _, _, hos⟩ := ho.slice
        have HOS := Lib.hid hos
        clear ho hb hos hO'
        by_cases hlt : m < mo.length
        · by_cases hm2 : m < 20
          · have hin : ((m : Int) < 20) := by omega
            obtain ⟨ad, la, lc, rfl, _, hadl, hc0, hc1, hc2, hc3, hc4, hc5, hr⟩ := jn_at (Sl.keep (fun k hk _ => HB.out.block k hk) HM.out) m hlt
            have HR := Lib.hid hr
            have HN : Hid ((mo.take (m + 1)).foldl moStep O = moStep O2 mo[m]) := Lib.hid (by rw [List.take_succ_eq_append_getElem hlt, List.foldl_append, HOE.out]; rfl)
            clear hr
            by_cases h8 : (mo[m].lines.length : Int) ≤ 8
            · generalize hp : postJ O2 mo[m] = p
              have HP := Lib.hid hp
              clear hp
              go_wp2_with fail
              refine (rpost_is O2 oa oc mo[m] la lc _ HOS.out (by unfold maxLen; omega) (jcs_inv HR.out).2.2.2.2.1 HP.out).mono ?_
              rintro e w2 ⟨rfl, hb⟩
              have HB2 := Lib.hid (belows_then HB.out HB.out.size hb)
              have HO2 := Lib.hid (OwnL.below HO.out hb)
              have HOS2 : Hid (Sl tJn w2 (fun _ => True) oa O2) := Lib.hid (Sl.keep (fun k hk _ => hb.block k hk) HOS.out)
              clear hb hc0 hc1 hc2 hc3 hc4 hc5 hadl
              by_cases hp0 : p = 0
              · subst hp0
                obtain ⟨ad2, la2, lc2, hade, _, hadl, hc0, hc1, hc2, hc3, hc4, hc5, hr⟩ := jn_at (Sl.keep (fun k hk _ => HB2.out.block k hk) HM.out) m hlt
                injection hade with hade
                subst hade
                have HR2 := Lib.hid hr
                clear hr
                go_wp2_with fail
                refine (rput_any O2 oa oc mo[m] la2 lc2 _ HOS2.out (by omega) HR2.out (post_ok_lines HP.out)).mono ?_
                rintro e w3 ⟨v3, rfl, ho3, hb3⟩
                have HB3 := Lib.hid (belows_then HB2.out HB2.out.size hb3)
                have HO3 := Lib.hid (ho3.mono HB2.out.size)
                have HNX : Hid ((mo.take (m + 1)).foldl moStep O = putJ O2 mo[m]) := Lib.hid (by rw [HN.out]; simp [moStep, h8, HP.out])
                clear ho3 hb3 hc0 hc1 hc2 hc3 hc4 hc5 hadl
                go_wp2_with fail
                go_roundw
                case rel => exact ⟨m + 1, _, rfl, by omega, by omega, by go_num, by rw [HNX.out]; exact HO3.out, HB3.out⟩
                case measure => simp [intOf]; omega
              · have hp1 : (p == 0) = false := by simpa using hp0
                have HNX : Hid ((mo.take (m + 1)).foldl moStep O = O2) := Lib.hid (by rw [HN.out]; simp [moStep, h8, HP.out, hp0])
                go_wp2_with fail
                go_roundw
                case rel => exact ⟨m + 1, _, rfl, by omega, by omega, by go_num, by rw [HNX.out]; exact HO2.out, HB2.out⟩
                case measure => simp [intOf]; omega
            · have HNX : Hid ((mo.take (m + 1)).foldl moStep O = O2) := Lib.hid (by rw [HN.out]; simp [moStep, h8])
              go_wp2_with fail
              go_roundw
              case rel => exact ⟨m + 1, _, rfl, by omega, by omega, by go_num, by rw [HNX.out]; exact HO.out, HB.out⟩
              case measure => simp [intOf]; omega
          · have hm20' : m = 20 := by omega
            subst hm20'
            have HEND : Hid (changedJ l es mo = O2) := Lib.hid (by unfold changedJ; rw [HOA.out, HOE.out])
            go_wp2_with fail
            go_ret
            exact ⟨_, rfl, by rw [HEND.out]; exact HO.out, HB.out⟩
        · have hml3 : m = mo.length := by omega
          have HEND : Hid (changedJ l es mo = O2) := Lib.hid (by unfold changedJ; rw [HOA.out, ← HOE.out, hml3, List.take_length, List.take_of_length_le (by omega)])
          go_wp2_with fail
          go_ret
          exact ⟨_, rfl, by rw [HEND.out]; exact HO.out, HB.out⟩
end Go.Proofs.Ytogikjnfmcfbmaa
