/- trial: each, of. -/
import Derived.Test.YtfnmlpnncjhnmaaGreatX13TrialTells
set_option linter.unusedVariables false
set_option linter.unusedSimpArgs false
namespace Go.Proofs.YtfnmlpnncjhnmaaGreat
open Go.RowKit Go.Maps

def linesOf (l : List Jn) (e f t : Int) : List Ln := (l.filter (cnt e f t)).flatMap (·.lines)
theorem linesOf_succ (e f t : Int) (l : List Jn) (n : Nat) (hn : n < l.length) : linesOf (l.take (n + 1)) e f t = linesOf (l.take n) e f t ++ (if cnt e f t l[n] then l[n].lines else []) := by
  unfold linesOf
  rw [List.take_succ_eq_append_getElem hn, List.filter_append, List.flatMap_append]
  cases h : cnt e f t l[n] <;> simp [h]
def accS (s : List (Int × Int)) (ls : List Ln) : List (Int × Int) := ls.foldl (fun s x => sAdd s x.acc x.amt) s
def parS (s : List (Int × Int)) (ls : List Ln) : List (Int × Int) := ls.foldl sPar s
theorem BookAt.same {w w' : World} {b : Nat} {a : Option Addr} {cap : Nat} {l : List Jn} {F : Nat → Prop} (h : BookAt w b a cap l F) (hw : w'.heap = w.heap) : BookAt w' b a cap l F :=
  ⟨by rw [hw]; exact h.cell, Sl.keep (fun k hk _ => by rw [hw]) h.sl, h.len, h.cap⟩
theorem But.toBelow {F : Nat → Prop} {B : Nat} {w w1 w2 : World} (hb : Below B w w1) (h : But F w1 w2) (hF : ∀ k, F k → B ≤ k) (hB : B ≤ w1.heap.size) : Below B w w2 :=
  ⟨h.os.trans hb.os, h.tape.trans hb.tape, h.output.trans hb.output, Nat.le_trans hb.size h.size, fun k hk => (h.block k (Nat.lt_of_lt_of_le hk hB) (fun hf => by have := hF k hf; omega)).trans (hb.block k hk)⟩

set_option maxHeartbeats 8000000 in
set_option maxRecDepth 100000 in
theorem each_acc {w : World} {g : Nat} {a : Option Addr} {cap : Nat} {l : List Jn} {F : Nat → Prop} (hbk : BookAt w g a cap l F) (hl : l.length ≤ 1000) (hne : ∀ x ∈ l, x.lines ≠ []) (e f t : Int) {bm : Nat} {s : List (Int × Int)} (hM : MapIs mInt (Value.int .i64) w bm s) :
    Calls Tryz.prog 114 #[.pointer (some ⟨g, 0, none⟩), .func (.func 115) #[tofv e f t] #[], .func (.func 116) #[.map (some bm)] #[]] w (AddPost w bm (accS s (linesOf l e f t))) := by
  have hbml := hM.lt
  have HM := Lib.hid hM
  have HC := Lib.hid (ball_any hbk hl hne)
  clear hbk hM hne
  go_enter Tryz.func114, Tryz.ntmps114
  go_wp2_with fail
  refine HC.out.mono ?_
  rintro en w1 ⟨v, rfl, ho, hb⟩
  have HOWN := Lib.hid ho.lt
  obtain ⟨a1, c1, rfl, hle1, hcm1, hsl⟩ := ho.slice
  have HS : Hid (Sl tJn w1 (fun k => w.heap.size ≤ k) a1 l) := Lib.hid (Sl.mono (fun k _ hk => by rcases hk with hk | hk; exact hk.1; exact (HOWN.out k hk).1) hsl)
  have HM1 := Lib.hid (HM.out.keep (hb.block bm hbml))
  have HB1 := Lib.hid hb
  have hl' : l.length ≤ 9223372036854775807 := by omega
  clear ho hb hsl hcm1 hle1
  go_wp2_with fail
  go_loopw [13] (fun vi wr => ∃ n : Nat, n ≤ l.length ∧ vi = .int .i64 n ∧ MapIs mInt (Value.int .i64) wr bm (accS s (linesOf (l.take n) e f t)) ∧ But (· = bm) w1 wr) (fun vi _ => l.length - (intOf vi).toNat)
  case atStart => exact ⟨0, Nat.zero_le _, rfl, by simpa [linesOf, accS] using HM1.out, But.refl _ _⟩
  case round =>
    obtain ⟨n, hn, rfl, hm, hbut⟩ := hrel
    have HMR := Lib.hid hm
    have HBR := Lib.hid hbut
    clear hm hbut
    by_cases hlt : n < l.length
    · obtain ⟨ad, la, lc, rfl, _, hadl, hc0, hc1, hc2, hc3, hc4, hc5, hr⟩ := jn_at (Sl.keep (fun k hk hF => HBR.out.block k hk (fun e => by have hF' : w.heap.size ≤ k := hF; omega)) HS.out) n hlt
      obtain ⟨_, _, _, _, hln, hll, hlc, _⟩ := jcs_inv hr
      have HLN := Lib.hid hln
      have hlen : l[n].lines.length ≤ 9223372036854775807 := by unfold maxLen at hlc; omega
      have HZ := Lib.hid (blk_new wr (.cells #[.int .i64 l[n].id, .int .i64 l[n].en, .int .i64 l[n].pe, .string l[n].ref, .slice la l[n].lines.length lc, .bool l[n].void] 88))
      have HW2 := Lib.hid ((Below.refl wr.heap.size wr).alloc (Nat.le_refl _) (.cells #[.int .i64 l[n].id, .int .i64 l[n].en, .int .i64 l[n].pe, .string l[n].ref, .slice la l[n].lines.length lc, .bool l[n].void] 88))
      clear hr hln hll hlc
      go_wp2_with fail
      cases hc : cnt e f t l[n]
      · have HSUC : Hid (linesOf (l.take (n + 1)) e f t = linesOf (l.take n) e f t) := Lib.hid (by rw [linesOf_succ e f t l n hlt, hc]; simp)
        refine (counts_any e f t l[n] la lc _ hc).mono ?_
        rintro en w2 ⟨rfl, hb⟩
        have HB2 := Lib.hid (belows_then HW2.out (by simp) hb)
        clear hb hc0 hc1 hc2 hc3 hc4 hc5 hadl hc
        go_wp2_with fail
        go_roundw
        case rel => exact ⟨n + 1, by omega, by go_num, by rw [HSUC.out]; exact HMR.out.keep (HB2.out.block bm HMR.out.lt), HBR.out.call HB2.out⟩
        case measure => simp [intOf]; omega
      · have HSUC : Hid (linesOf (l.take (n + 1)) e f t = linesOf (l.take n) e f t ++ l[n].lines) := Lib.hid (by rw [linesOf_succ e f t l n hlt, hc]; simp)
        refine (counts_any e f t l[n] la lc _ hc).mono ?_
        rintro en w2 ⟨rfl, hb⟩
        have HB2 := Lib.hid (belows_then HW2.out (by simp) hb)
        have HZ2 := Lib.hid (blk_below HZ.out hb)
        have HM2 := Lib.hid (HMR.out.keep (HB2.out.block bm HMR.out.lt))
        have HBR2 := Lib.hid (HBR.out.call HB2.out)
        have HLN2 := Lib.hid (Sl.keep (fun k hk _ => HB2.out.block k hk) HLN.out)
        have hzc := blk_cells HZ2.out
        have hzl := blk_lt HZ2.out
        clear hb hc0 hc1 hc2 hc3 hc4 hc5 hadl hc
        generalize hS : accS s (linesOf (l.take n) e f t) = S at HM2
        have HSE := Lib.hid hS
        clear hS
        go_wp2_with fail
        go_loopw [24] (fun vk wi => ∃ m : Nat, m ≤ l[n].lines.length ∧ vk = .int .i64 m ∧ MapIs mInt (Value.int .i64) wi bm (accS S (l[n].lines.take m)) ∧ But (· = bm) w2 wi) (fun vk _ => l[n].lines.length - (intOf vk).toNat)
        case atStart => exact ⟨0, Nat.zero_le _, rfl, by simpa [accS] using HM2.out, But.refl _ _⟩
        case round =>
          obtain ⟨m, hm, rfl, hmi, hbi⟩ := hrel
          have HMI := Lib.hid hmi
          have HBI := Lib.hid hbi
          clear hmi hbi
          by_cases hlm : m < l[n].lines.length
          · obtain ⟨ad2, rfl, _, hadl2, hq0, hq1, hq2, g0, g1, g2⟩ := ln_at (Sl.keep (fun k hk hF => HBI.out.block k hk (fun e => by have hF' : w.heap.size ≤ k := hF; omega)) HLN2.out) m hlm
            have HKEY : Hid (I64 l[n].lines[m].acc) := Lib.hid (by assumption)
            have HMA := Lib.hid (HMI.out.keep (Below.heap_alloc wr (.cells #[.int .i64 l[n].lines[m].acc, .int .i64 l[n].lines[m].amt, .int .i64 l[n].lines[m].par] 85) bm HMI.out.lt))
            have HN : Hid (accS S (l[n].lines.take (m + 1)) = sAdd (accS S (l[n].lines.take m)) l[n].lines[m].acc l[n].lines[m].amt) := Lib.hid (by unfold accS; rw [List.take_succ_eq_append_getElem hlm, List.foldl_append]; rfl)
            clear g0 g1 g2
            go_wp2_with fail
            refine (account_any HMA.out l[n].lines[m] HKEY.out).mono ?_
            rintro en w3 ⟨rfl, hm3, hb3⟩
            have HM3 := Lib.hid hm3
            have HB3 := Lib.hid ((HBI.out.alloc _).trans hb3)
            clear hm3 hb3 hq0 hq1 hq2 hadl2
            go_wp2_with fail
            go_roundw
            case rel => exact ⟨m + 1, by omega, by go_num, by rw [HN.out]; exact HM3.out, HB3.out⟩
            case measure => simp [intOf]; omega
          · have HL : Hid (l[n].lines.take m = l[n].lines) := Lib.hid (take_all hm hlm)
            have HFIN : Hid (accS s (linesOf (l.take (n + 1)) e f t) = accS S (l[n].lines.take m)) := Lib.hid (by rw [HSUC.out, HL.out, ← HSE.out]; unfold accS; rw [List.foldl_append])
            go_wp2_with fail
            go_roundw
            case rel => exact ⟨n + 1, by omega, by go_num, by rw [HFIN.out]; exact HMI.out, HBR2.out.trans HBI.out⟩
            case measure => simp [intOf]; omega
    · have HL : Hid (l.take n = l) := Lib.hid (take_all hn hlt)
      go_wp2_with fail
      go_end0
      exact ⟨rfl, by have := HMR.out; rwa [HL.out] at this, (But.of_below HB1.out _).trans HBR.out⟩
set_option maxHeartbeats 8000000 in
set_option maxRecDepth 100000 in
theorem each_par {w : World} {g : Nat} {a : Option Addr} {cap : Nat} {l : List Jn} {F : Nat → Prop} (hbk : BookAt w g a cap l F) (hl : l.length ≤ 1000) (hne : ∀ x ∈ l, x.lines ≠ []) (e f t : Int) {bm : Nat} {s : List (Int × Int)} (hM : MapIs mInt (Value.int .i64) w bm s) :
    Calls Tryz.prog 114 #[.pointer (some ⟨g, 0, none⟩), .func (.func 115) #[tofv e f t] #[], .func (.func 119) #[.map (some bm)] #[]] w (AddPost w bm (parS s (linesOf l e f t))) := by
  have hbml := hM.lt
  have HM := Lib.hid hM
  have HC := Lib.hid (ball_any hbk hl hne)
  clear hbk hM hne
  go_enter Tryz.func114, Tryz.ntmps114
  go_wp2_with fail
  refine HC.out.mono ?_
  rintro en w1 ⟨v, rfl, ho, hb⟩
  have HOWN := Lib.hid ho.lt
  obtain ⟨a1, c1, rfl, hle1, hcm1, hsl⟩ := ho.slice
  have HS : Hid (Sl tJn w1 (fun k => w.heap.size ≤ k) a1 l) := Lib.hid (Sl.mono (fun k _ hk => by rcases hk with hk | hk; exact hk.1; exact (HOWN.out k hk).1) hsl)
  have HM1 := Lib.hid (HM.out.keep (hb.block bm hbml))
  have HB1 := Lib.hid hb
  have hl' : l.length ≤ 9223372036854775807 := by omega
  clear ho hb hsl hcm1 hle1
  go_wp2_with fail
  go_loopw [13] (fun vi wr => ∃ n : Nat, n ≤ l.length ∧ vi = .int .i64 n ∧ MapIs mInt (Value.int .i64) wr bm (parS s (linesOf (l.take n) e f t)) ∧ But (· = bm) w1 wr) (fun vi _ => l.length - (intOf vi).toNat)
  case atStart => exact ⟨0, Nat.zero_le _, rfl, by simpa [linesOf, parS] using HM1.out, But.refl _ _⟩
  case round =>
    obtain ⟨n, hn, rfl, hm, hbut⟩ := hrel
    have HMR := Lib.hid hm
    have HBR := Lib.hid hbut
    clear hm hbut
    by_cases hlt : n < l.length
    · obtain ⟨ad, la, lc, rfl, _, hadl, hc0, hc1, hc2, hc3, hc4, hc5, hr⟩ := jn_at (Sl.keep (fun k hk hF => HBR.out.block k hk (fun e => by have hF' : w.heap.size ≤ k := hF; omega)) HS.out) n hlt
      obtain ⟨_, _, _, _, hln, hll, hlc, _⟩ := jcs_inv hr
      have HLN := Lib.hid hln
      have hlen : l[n].lines.length ≤ 9223372036854775807 := by unfold maxLen at hlc; omega
      have HZ := Lib.hid (blk_new wr (.cells #[.int .i64 l[n].id, .int .i64 l[n].en, .int .i64 l[n].pe, .string l[n].ref, .slice la l[n].lines.length lc, .bool l[n].void] 88))
      have HW2 := Lib.hid ((Below.refl wr.heap.size wr).alloc (Nat.le_refl _) (.cells #[.int .i64 l[n].id, .int .i64 l[n].en, .int .i64 l[n].pe, .string l[n].ref, .slice la l[n].lines.length lc, .bool l[n].void] 88))
      clear hr hln hll hlc
      go_wp2_with fail
      cases hc : cnt e f t l[n]
      · have HSUC : Hid (linesOf (l.take (n + 1)) e f t = linesOf (l.take n) e f t) := Lib.hid (by rw [linesOf_succ e f t l n hlt, hc]; simp)
        refine (counts_any e f t l[n] la lc _ hc).mono ?_
        rintro en w2 ⟨rfl, hb⟩
        have HB2 := Lib.hid (belows_then HW2.out (by simp) hb)
        clear hb hc0 hc1 hc2 hc3 hc4 hc5 hadl hc
        go_wp2_with fail
        go_roundw
        case rel => exact ⟨n + 1, by omega, by go_num, by rw [HSUC.out]; exact HMR.out.keep (HB2.out.block bm HMR.out.lt), HBR.out.call HB2.out⟩
        case measure => simp [intOf]; omega
      · have HSUC : Hid (linesOf (l.take (n + 1)) e f t = linesOf (l.take n) e f t ++ l[n].lines) := Lib.hid (by rw [linesOf_succ e f t l n hlt, hc]; simp)
        refine (counts_any e f t l[n] la lc _ hc).mono ?_
        rintro en w2 ⟨rfl, hb⟩
        have HB2 := Lib.hid (belows_then HW2.out (by simp) hb)
        have HZ2 := Lib.hid (blk_below HZ.out hb)
        have HM2 := Lib.hid (HMR.out.keep (HB2.out.block bm HMR.out.lt))
        have HBR2 := Lib.hid (HBR.out.call HB2.out)
        have HLN2 := Lib.hid (Sl.keep (fun k hk _ => HB2.out.block k hk) HLN.out)
        have hzc := blk_cells HZ2.out
        have hzl := blk_lt HZ2.out
        clear hb hc0 hc1 hc2 hc3 hc4 hc5 hadl hc
        generalize hS : parS s (linesOf (l.take n) e f t) = S at HM2
        have HSE := Lib.hid hS
        clear hS
        go_wp2_with fail
        go_loopw [24] (fun vk wi => ∃ m : Nat, m ≤ l[n].lines.length ∧ vk = .int .i64 m ∧ MapIs mInt (Value.int .i64) wi bm (parS S (l[n].lines.take m)) ∧ But (· = bm) w2 wi) (fun vk _ => l[n].lines.length - (intOf vk).toNat)
        case atStart => exact ⟨0, Nat.zero_le _, rfl, by simpa [parS] using HM2.out, But.refl _ _⟩
        case round =>
          obtain ⟨m, hm, rfl, hmi, hbi⟩ := hrel
          have HMI := Lib.hid hmi
          have HBI := Lib.hid hbi
          clear hmi hbi
          by_cases hlm : m < l[n].lines.length
          · obtain ⟨ad2, rfl, _, hadl2, hq0, hq1, hq2, g0, g1, g2⟩ := ln_at (Sl.keep (fun k hk hF => HBI.out.block k hk (fun e => by have hF' : w.heap.size ≤ k := hF; omega)) HLN2.out) m hlm
            have HKEY : Hid (I64 l[n].lines[m].par) := Lib.hid (by assumption)
            have HMA := Lib.hid (HMI.out.keep (Below.heap_alloc wr (.cells #[.int .i64 l[n].lines[m].acc, .int .i64 l[n].lines[m].amt, .int .i64 l[n].lines[m].par] 85) bm HMI.out.lt))
            have HN : Hid (parS S (l[n].lines.take (m + 1)) = sPar (parS S (l[n].lines.take m)) l[n].lines[m]) := Lib.hid (by unfold parS; rw [List.take_succ_eq_append_getElem hlm, List.foldl_append]; rfl)
            clear g0 g1 g2
            go_wp2_with fail
            refine (partner_any HMA.out l[n].lines[m] HKEY.out).mono ?_
            rintro en w3 ⟨rfl, hm3, hb3⟩
            have HM3 := Lib.hid hm3
            have HB3 := Lib.hid ((HBI.out.alloc _).trans hb3)
            clear hm3 hb3 hq0 hq1 hq2 hadl2
            go_wp2_with fail
            go_roundw
            case rel => exact ⟨m + 1, by omega, by go_num, by rw [HN.out]; exact HM3.out, HB3.out⟩
            case measure => simp [intOf]; omega
          · have HL : Hid (l[n].lines.take m = l[n].lines) := Lib.hid (take_all hm hlm)
            have HFIN : Hid (parS s (linesOf (l.take (n + 1)) e f t) = parS S (l[n].lines.take m)) := Lib.hid (by rw [HSUC.out, HL.out, ← HSE.out]; unfold parS; rw [List.foldl_append])
            go_wp2_with fail
            go_roundw
            case rel => exact ⟨n + 1, by omega, by go_num, by rw [HFIN.out]; exact HMI.out, HBR2.out.trans HBI.out⟩
            case measure => simp [intOf]; omega
    · have HL : Hid (l.take n = l) := Lib.hid (take_all hn hlt)
      go_wp2_with fail
      go_end0
      exact ⟨rfl, by have := HMR.out; rwa [HL.out] at this, (But.of_below HB1.out _).trans HBR.out⟩

def SumPost (w : World) (s : List (Int × Int)) (e : Ending) (w' : World) : Prop := ∃ bm, e = .returned (.map (some bm)) ∧ MapIs mInt (Value.int .i64) w' bm s ∧ Below w.heap.size w w'
theorem accounts_any (b : Nat) (w : World) : Calls Tryz.prog 43 #[.map (some b)] w fun e w' => e = .returned (.func (.func 116) #[.map (some b)] #[]) ∧ w' = w := by
  go_enter Tryz.func43, Tryz.ntmps43
  go_wp2_with fail
  go_ret
  exact ⟨rfl, rfl⟩
set_option maxHeartbeats 4000000 in
set_option maxRecDepth 100000 in
theorem of_acc {w : World} {g : Nat} {a : Option Addr} {cap : Nat} {l : List Jn} {F : Nat → Prop} (hbk : BookAt w g a cap l F) (hl : l.length ≤ 1000) (hne : ∀ x ∈ l, x.lines ≠ []) (e f t : Int) :
    Calls Tryz.prog 42 #[.pointer (some ⟨g, 0, none⟩), tofv e f t, .func (.func 43) #[] #[]] w (SumPost w (accS [] (linesOf l e f t))) := by
  have HB2 := Lib.hid (((Below.refl w.heap.size w).alloc (Nat.le_refl _) (.cells #[.int .i64 e, .int .i64 f, .int .i64 t] 31)).alloc (by simp) (.map #[] 0))
  have hw2 : Below w.heap.size w ((w.alloc (.cells #[.int .i64 e, .int .i64 f, .int .i64 t] 31)).alloc (.map #[] 0)) := HB2.out
  have HK := Lib.hid (hbk.below hw2)
  have HM : Hid (MapIs mInt (Value.int .i64) ((w.alloc (.cells #[.int .i64 e, .int .i64 f, .int .i64 t] 31)).alloc (.map #[] 0)) (w.heap.size + 1) []) := Lib.hid (by have := MapIs.new mInt (Value.int .i64) (w.alloc (.cells #[.int .i64 e, .int .i64 f, .int .i64 t] 31)); simpa using this)
  have HZ := Lib.hid (blk_alloc (blk_new w (.cells #[.int .i64 e, .int .i64 f, .int .i64 t] 31)) (.map #[] 0))
  have HNE := Lib.hid hne
  clear hbk hne hw2
  have hmm := @run_makeMap Tryz.prog
  go_enter Tryz.func42, Tryz.ntmps42
  go_wp2_with fail
  clear hmm
  refine abs_world (S := fun wx => BookAt wx g a cap l F ∧ MapIs mInt (Value.int .i64) wx (w.heap.size + 1) [] ∧ Below w.heap.size w wx ∧ wx.heap[w.heap.size]? = some (.cells #[.int .i64 e, .int .i64 f, .int .i64 t] 31 (0, 0)) ∧ w.heap.size + 1 < wx.heap.size) ?_ ⟨HK.out, HM.out, HB2.out, HZ.out, by simp⟩
  clear HK HM HB2 HZ
  rintro wx ⟨hk, hm, hb, hz, hsz⟩
  have HK := Lib.hid hk
  have HM := Lib.hid hm
  have HBX := Lib.hid hb
  have hzc := blk_cells hz
  clear hk hm hb hz
  go_region_with (first
    | (go_at_call 43; refine (accounts_any _ _).mono ?_; rintro en w3 ⟨rfl, rfl⟩)
    | (go_at_call 114; refine (each_acc (BookAt.same HK.out (by rfl)) hl HNE.out e f t (HM.out.keep (by rfl))).mono ?_; rintro en w3 ⟨rfl, hm3, hb3⟩))
  all_goals
    have HM3 := Lib.hid hm3
    have HB3 := Lib.hid (But.toBelow (below_drewN HBX.out 1) hb3 (fun k e => by omega) HBX.out.size)
    clear hm3 hb3
    go_wp2_with fail
    go_ret
    exact ⟨_, rfl, HM3.out, HB3.out⟩
theorem partners_any (b : Nat) (w : World) : Calls Tryz.prog 46 #[.map (some b)] w fun e w' => e = .returned (.func (.func 119) #[.map (some b)] #[]) ∧ w' = w := by
  go_enter Tryz.func46, Tryz.ntmps46
  go_wp2_with fail
  go_ret
  exact ⟨rfl, rfl⟩
set_option maxHeartbeats 4000000 in
set_option maxRecDepth 100000 in
theorem of_par {w : World} {g : Nat} {a : Option Addr} {cap : Nat} {l : List Jn} {F : Nat → Prop} (hbk : BookAt w g a cap l F) (hl : l.length ≤ 1000) (hne : ∀ x ∈ l, x.lines ≠ []) (e f t : Int) :
    Calls Tryz.prog 42 #[.pointer (some ⟨g, 0, none⟩), tofv e f t, .func (.func 46) #[] #[]] w (SumPost w (parS [] (linesOf l e f t))) := by
  have HB2 := Lib.hid (((Below.refl w.heap.size w).alloc (Nat.le_refl _) (.cells #[.int .i64 e, .int .i64 f, .int .i64 t] 31)).alloc (by simp) (.map #[] 0))
  have hw2 : Below w.heap.size w ((w.alloc (.cells #[.int .i64 e, .int .i64 f, .int .i64 t] 31)).alloc (.map #[] 0)) := HB2.out
  have HK := Lib.hid (hbk.below hw2)
  have HM : Hid (MapIs mInt (Value.int .i64) ((w.alloc (.cells #[.int .i64 e, .int .i64 f, .int .i64 t] 31)).alloc (.map #[] 0)) (w.heap.size + 1) []) := Lib.hid (by have := MapIs.new mInt (Value.int .i64) (w.alloc (.cells #[.int .i64 e, .int .i64 f, .int .i64 t] 31)); simpa using this)
  have HZ := Lib.hid (blk_alloc (blk_new w (.cells #[.int .i64 e, .int .i64 f, .int .i64 t] 31)) (.map #[] 0))
  have HNE := Lib.hid hne
  clear hbk hne hw2
  have hmm := @run_makeMap Tryz.prog
  go_enter Tryz.func42, Tryz.ntmps42
  go_wp2_with fail
  clear hmm
  refine abs_world (S := fun wx => BookAt wx g a cap l F ∧ MapIs mInt (Value.int .i64) wx (w.heap.size + 1) [] ∧ Below w.heap.size w wx ∧ wx.heap[w.heap.size]? = some (.cells #[.int .i64 e, .int .i64 f, .int .i64 t] 31 (0, 0)) ∧ w.heap.size + 1 < wx.heap.size) ?_ ⟨HK.out, HM.out, HB2.out, HZ.out, by simp⟩
  clear HK HM HB2 HZ
  rintro wx ⟨hk, hm, hb, hz, hsz⟩
  have HK := Lib.hid hk
  have HM := Lib.hid hm
  have HBX := Lib.hid hb
  have hzc := blk_cells hz
  clear hk hm hb hz
  go_region_with (first
    | (go_at_call 46; refine (partners_any _ _).mono ?_; rintro en w3 ⟨rfl, rfl⟩)
    | (go_at_call 114; refine (each_par (BookAt.same HK.out (by rfl)) hl HNE.out e f t (HM.out.keep (by rfl))).mono ?_; rintro en w3 ⟨rfl, hm3, hb3⟩))
  all_goals
    have HM3 := Lib.hid hm3
    have HB3 := Lib.hid (But.toBelow (below_drewN HBX.out 1) hb3 (fun k e => by omega) HBX.out.size)
    clear hm3 hb3
    go_wp2_with fail
    go_ret
    exact ⟨_, rfl, HM3.out, HB3.out⟩
end Go.Proofs.YtfnmlpnncjhnmaaGreat
