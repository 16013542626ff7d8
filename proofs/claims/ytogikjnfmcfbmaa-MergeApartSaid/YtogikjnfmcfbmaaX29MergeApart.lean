/- merge: the numbers of three books (ids). -/
import Derived.Test.YtogikjnfmcfbmaaX24MergeApart
import Derived.Test.YtogikjnfmcfbmaaX21MergeApart
set_option linter.unusedVariables false
set_option linter.unusedSimpArgs false
namespace Go.Proofs.Ytogikjnfmcfbmaa
open Go.RowKit Go.Maps Go.Sort Go.Shelf

set_option maxRecDepth 100000 in
set_option maxHeartbeats 2000000 in
theorem keys1II (n : Nat) (hn : 1 ≤ n) (l Bm b : Nat) (lst : List (Int × Int)) (J : List Int → World → Prop)
    (hY : ∀ pre x W, J pre W → pre.length < lst.length → YieldAt Fence.wide (n - 1) Try.prog l #[encZ x] W fun e W' => e = .returned (.bool true) ∧ J (pre ++ [x]) W' ∧ KeepsWalks W W')
    (W : World) (hJ : AbidesFrom W.heap.size J) (hm : W.cell? ⟨Bm, 0, none⟩ = some (.map (some b))) (hM : MapIs mInt (Value.int .i64) W b lst) (h0 : J [] W) :
    CallsIn Fence.wide n Try.prog 72 #[.func (.yield l) #[] #[], .pointer (some ⟨Bm, 0, none⟩)] W fun e W' => (∃ v, e = .returned v) ∧ ∃ ss : List Int, ss.Perm (lst.map (·.1)) ∧ J ss W' := by
  refine callsIn_of_wp Try.func72 rfl trivial ?_ rfl
  simp only [Try.ntmps72, List.size_toArray, List.length_cons, List.length_nil, Nat.reduceAdd, Nat.reduceSub, Array.replicate_succ, Array.replicate_zero, List.push_toArray, List.append_toArray, List.nil_append, List.cons_append]
  gi_wp2_with (first
    | (gi_at_range; refine wpIn_range rfl _ 68 rfl 3 Try.underlying68 b lst rfl hM ?_; intro w0 hrg0 hg0 hs0)
    | gi_in)
  go_frame
  gi_loopw [3] (fun _ wr => ∃ (ss : List Int), Rng mInt (Value.int .i64) wr b W.heap.size lst ss ∧ J ss wr)
    (fun _ wr => wr.rangeLeft b W.heap.size)
  case atStart =>
    exact ⟨[], hrg0, hJ [] W w0 none h0 hg0 (fun r e => by cases e)⟩
  case round =>
    obtain ⟨ss, hrg, hJs⟩ := hrel
    gi_wp2_with (first
      | (gi_at_next; refine wpIn_next rfl _ rfl b W.heap.size lst ss rfl hrg ?_ ?_)
      | gi_in)
    · intro hp
      gi_wp2
      go_end0
      exact ⟨⟨_, rfl⟩, ss, hp, hJs⟩
    · intro kx v w2 hkv hrg2 hlt hg2 hs2 hen
      have hek : mInt.ek kx = .int .i64 kx := rfl
      rw [hek] at hen ⊢
      have hlen := hrg2.len
      have hJ2 : J ss w2 := hJ ss wr w2 (some W.heap.size) hJs hg2 (fun r e => by cases e; exact ⟨Nat.le_refl _, hrg.iter_walk⟩)
      obtain ⟨fn, tmps, assign, body, hy, hR⟩ := hY ss kx _ hJ2 (by simp at hlen; omega)
      clear hs2
      gi_wp2
      refine hR.mono ?_
      rintro e W3 ⟨rfl, hJ4, hk4⟩
      have hrg4 := hrg2.of_walks hk4
      gi_wp2
      go_roundw
      case rel => exact ⟨ss ++ [kx], hrg4, hJ4⟩
      case measure =>
        have e1 := rangeLeft_walks hk4 hrg2
        rw [e1]
        exact hlt
theorem keysfII (mb : Option Nat) (w : World) :
    Calls Try.prog 55 #[.map mb] w fun e w' => e = .returned (.func (.func 72) #[] #[.pointer (some ⟨w.heap.size, 0, none⟩)]) ∧ w' = w.alloc (.cells #[.map mb] 68) := by
  go_enter Try.func55, Try.ntmps55
  go_wp2_with fail
  go_ret
  exact ⟨rfl, rfl⟩
theorem givesII (n : Nat) (hn : 1 ≤ n) (Bm b : Nat) (lst : List (Int × Int)) (w : World) (hBm : Bm < w.heap.size) (hm : w.cell? ⟨Bm, 0, none⟩ = some (.map (some b))) (hM : MapIs mInt (Value.int .i64) w b lst) :
    SeqGives Fence.wide n Try.prog 72 #[.pointer (some ⟨Bm, 0, none⟩)] encZ (fun ss => ss.Perm (lst.map (·.1))) lst.length w := fun l J W hW hJ hY h0 =>
  keys1II n hn l Bm b lst J hY W hJ ((hW.cell (p := ⟨Bm, 0, none⟩) hBm).trans hm) (hM.keep (hW.block b hM.lt)) h0
theorem sortedII (Bm b : Nat) (lst : List (Int × Int)) (w : World) (hBm : Bm < w.heap.size) (hm : w.cell? ⟨Bm, 0, none⟩ = some (.map (some b))) (hM : MapIs mInt (Value.int .i64) w b lst) (hl : lst.length ≤ 1000000) :
    Calls Try.prog 53 #[.func (.func 72) #[] #[.pointer (some ⟨Bm, 0, none⟩)]] w (SrtPost w (lst.map (·.1))) :=
  sorted_is 72 #[.pointer (some ⟨Bm, 0, none⟩)] (enters_of Try.func72 (by kernel_rfl) rfl) (lst.map (·.1)) (fun k hk => by obtain ⟨x, hx, rfl⟩ := List.mem_map.1 hk; exact hM.oks x hx) (by rw [List.length_map]; exact hl) w (by rw [List.length_map]; exact givesII 2 (by omega) Bm b lst w hBm hm hM)

/-- block g is a book of journals that may be -/
structure Bk (w : World) (g : Nat) (l : List Jn) : Prop where
  at' : ∃ a cap F, BookAt w g a cap l F
  len : l.length ≤ 200
  ord : OrdJ l
  ne : ∀ x ∈ l, x.lines ≠ []
theorem Bk.below {w w' : World} {g : Nat} {l : List Jn} (h : Bk w g l) (hb : Below w.heap.size w w') : Bk w' g l := by
  obtain ⟨a, cap, F, h1⟩ := h.at'
  exact ⟨⟨a, cap, F, h1.below hb⟩, h.len, h.ord, h.ne⟩

def cntS (l : List Jn) : List (Int × Int) := l.foldl (fun s j => sAdd s j.id 1) []
theorem cntS_snoc (l : List Jn) (x : Jn) : cntS (l ++ [x]) = sAdd (cntS l) x.id 1 := by
  unfold cntS
  rw [List.foldl_append]
  rfl
theorem cntS_len : ∀ (l : List Jn) (s : List (Int × Int)), (l.foldl (fun s j => sAdd s j.id 1) s).length ≤ s.length + l.length
  | [], s => by simp
  | x :: r, s => by
    rw [List.foldl_cons]
    have h1 := cntS_len r (sAdd s x.id 1)
    have h2 : (sAdd s x.id 1).length ≤ s.length + 1 := by
      have h3 := congrArg List.length (ins_keys s x.id (wrap64 (at0 s x.id + 1)))
      rw [List.length_map] at h3
      unfold sAdd
      rw [h3]
      split <;> simp
    simp only [List.length_cons]
    omega
theorem cntS_mem : ∀ (l : List Jn) (s : List (Int × Int)) (k : Int), k ∈ (l.foldl (fun s j => sAdd s j.id 1) s).map (·.1) ↔ k ∈ s.map (·.1) ∨ ∃ x ∈ l, x.id = k
  | [], s, k => by simp
  | x :: r, s, k => by
    rw [List.foldl_cons, cntS_mem r]
    have : k ∈ (sAdd s x.id 1).map (·.1) ↔ k ∈ s.map (·.1) ∨ x.id = k := by
      unfold sAdd
      rw [ins_keys]
      split
      · rename_i h
        constructor
        · exact .inl
        · rintro (h' | rfl)
          · exact h'
          · exact h
      · rw [List.mem_append, List.mem_singleton]
        constructor
        · rintro (h | rfl)
          · exact .inl h
          · exact .inr rfl
        · rintro (h | rfl)
          · exact .inl h
          · exact .inr rfl
    rw [this]
    simp only [List.mem_cons, exists_eq_or_imp]
    rw [or_assoc]
/-- the numbers that stand in one of three -/
def idsJ (l0 l1 l2 : List Jn) : List Int := srt ((cntS ((l0 ++ l1) ++ l2)).map (·.1))

theorem pre3 {w : World} {g0 g1 g2 : Nat} {l0 l1 l2 : List Jn} (h0 : Bk w g0 l0) (h1 : Bk w g1 l1) (h2 : Bk w g2 l2) (n : Nat) (hn : n < 3) :
    ∃ (g : Nat) (l : List Jn), Bk w g l ∧ #[Value.pointer (some ⟨g0, 0, none⟩), Value.pointer (some ⟨g1, 0, none⟩), Value.pointer (some ⟨g2, 0, none⟩)][n]? = some (.pointer (some ⟨g, 0, none⟩)) ∧ ([l0, l1, l2].take (n + 1)).flatten = ([l0, l1, l2].take n).flatten ++ l := by
  match n, hn with
  | 0, _ => exact ⟨g0, l0, h0, rfl, by simp⟩
  | 1, _ => exact ⟨g1, l1, h1, rfl, by simp⟩
  | 2, _ => exact ⟨g2, l2, h2, rfl, by simp⟩
theorem pre3_len {l0 l1 l2 : List Jn} (h0 : l0.length ≤ 200) (h1 : l1.length ≤ 200) (h2 : l2.length ≤ 200) (n : Nat) : ([l0, l1, l2].take n).flatten.length ≤ 600 := by
  match n with
  | 0 => simp
  | 1 => simp; omega
  | 2 => simp; omega
  | n + 3 => simp; omega

def IdsP (w : World) (ks : List Int) (e : Ending) (w' : World) : Prop := ∃ v, e = .returned v ∧ OwnL tInt w' w.heap.size v ks ∧ Below w.heap.size w w'

set_option maxHeartbeats 16000000 in
set_option maxRecDepth 100000 in
theorem ids_any {w : World} {g0 g1 g2 : Nat} {l0 l1 l2 : List Jn} (h0 : Bk w g0 l0) (h1 : Bk w g1 l1) (h2 : Bk w g2 l2) :
    Calls Try.prog 51 #[(.agg #[.pointer (some ⟨g0, 0, none⟩), .pointer (some ⟨g1, 0, none⟩), .pointer (some ⟨g2, 0, none⟩)])] w (IdsP w (idsJ l0 l1 l2)) := by
  have HL := Lib.hid (And.intro h0.len (And.intro h1.len h2.len))
  have hk0 : Below w.heap.size w (((w.alloc (.cells #[.pointer (some ⟨g0, 0, none⟩), .pointer (some ⟨g1, 0, none⟩), .pointer (some ⟨g2, 0, none⟩)] 71)).alloc (.map #[] 0)).alloc (.cells #[.pointer (some ⟨g0, 0, none⟩), .pointer (some ⟨g1, 0, none⟩), .pointer (some ⟨g2, 0, none⟩)] 36)) := (((Below.refl w.heap.size w).alloc (Nat.le_refl _) _).alloc (by simp) _).alloc (by simp; omega) _
  have HK := Lib.hid hk0
  have HB0 := Lib.hid h0
  have HB1 := Lib.hid h1
  have HB2 := Lib.hid h2
  have HM0 : Hid (MapIs mInt (Value.int .i64) (((w.alloc (.cells #[.pointer (some ⟨g0, 0, none⟩), .pointer (some ⟨g1, 0, none⟩), .pointer (some ⟨g2, 0, none⟩)] 71)).alloc (.map #[] 0)).alloc (.cells #[.pointer (some ⟨g0, 0, none⟩), .pointer (some ⟨g1, 0, none⟩), .pointer (some ⟨g2, 0, none⟩)] 36)) (w.heap.size + 1) (cntS ([l0, l1, l2].take 0).flatten)) := Lib.hid ((by have := MapIs.new mInt (Value.int .i64) (w.alloc (.cells #[.pointer (some ⟨g0, 0, none⟩), .pointer (some ⟨g1, 0, none⟩), .pointer (some ⟨g2, 0, none⟩)] 71)); simpa [cntS] using this : MapIs mInt (Value.int .i64) ((w.alloc (.cells #[.pointer (some ⟨g0, 0, none⟩), .pointer (some ⟨g1, 0, none⟩), .pointer (some ⟨g2, 0, none⟩)] 71)).alloc (.map #[] 0)) (w.heap.size + 1) (cntS ([l0, l1, l2].take 0).flatten)).keep (Below.heap_alloc _ _ _ (by simp)))
  have HZ : Hid (((((w.alloc (.cells #[.pointer (some ⟨g0, 0, none⟩), .pointer (some ⟨g1, 0, none⟩), .pointer (some ⟨g2, 0, none⟩)] 71)).alloc (.map #[] 0)).alloc (.cells #[.pointer (some ⟨g0, 0, none⟩), .pointer (some ⟨g1, 0, none⟩), .pointer (some ⟨g2, 0, none⟩)] 36))).heap[w.heap.size + 2]? = some (.cells #[.pointer (some ⟨g0, 0, none⟩), .pointer (some ⟨g1, 0, none⟩), .pointer (some ⟨g2, 0, none⟩)] 36 (0, 0))) := Lib.hid (by have := blk_new ((w.alloc (.cells #[.pointer (some ⟨g0, 0, none⟩), .pointer (some ⟨g1, 0, none⟩), .pointer (some ⟨g2, 0, none⟩)] 71)).alloc (.map #[] 0)) (.cells #[.pointer (some ⟨g0, 0, none⟩), .pointer (some ⟨g1, 0, none⟩), .pointer (some ⟨g2, 0, none⟩)] 36); simpa using this)
  have hsz : ((((w.alloc (.cells #[.pointer (some ⟨g0, 0, none⟩), .pointer (some ⟨g1, 0, none⟩), .pointer (some ⟨g2, 0, none⟩)] 71)).alloc (.map #[] 0)).alloc (.cells #[.pointer (some ⟨g0, 0, none⟩), .pointer (some ⟨g1, 0, none⟩), .pointer (some ⟨g2, 0, none⟩)] 36))).heap.size = w.heap.size + 3 := by simp
  have hmm := @run_makeMap Try.prog
  clear h0 h1 h2 hk0
  go_enter Try.func51, Try.ntmps51
  go_wp2_with fail
  clear hmm
  go_loopw [17] (fun vi wr => ∃ n : Nat, n ≤ 3 ∧ vi = .int .i64 n ∧ MapIs mInt (Value.int .i64) wr (w.heap.size + 1) (cntS ([l0, l1, l2].take n).flatten) ∧ But (· = w.heap.size + 1) (((w.alloc (.cells #[.pointer (some ⟨g0, 0, none⟩), .pointer (some ⟨g1, 0, none⟩), .pointer (some ⟨g2, 0, none⟩)] 71)).alloc (.map #[] 0)).alloc (.cells #[.pointer (some ⟨g0, 0, none⟩), .pointer (some ⟨g1, 0, none⟩), .pointer (some ⟨g2, 0, none⟩)] 36)) wr) (fun vi _ => 3 - (intOf vi).toNat)
  case atStart => exact ⟨0, by omega, rfl, HM0.out, But.refl _ _⟩
  case round =>
    obtain ⟨n, hn, rfl, hm, hbu⟩ := hrel
    have HM := Lib.hid hm
    have HBU := Lib.hid hbu
    have hbs := hbu.size
    rw [hsz] at hbs
    clear hm hbu HM0
    have HBW := Lib.hid (But.toBelow HK.out HBU.out (fun k e => by omega) (by rw [hsz]; omega))
    by_cases hlt : n < 3
    · obtain ⟨g, l, hbk, hge, hpre⟩ := pre3 (HB0.out.below HBW.out) (HB1.out.below HBW.out) (HB2.out.below HBW.out) n hlt
      have hcell : wr.cell? ⟨w.heap.size + 2, n, none⟩ = some (.pointer (some ⟨g, 0, none⟩)) := (blk_cells ((HBU.out.block (w.heap.size + 2) (by rw [hsz]; omega) (by omega)).trans HZ.out) n).trans hge
      obtain ⟨ba, bc, bF, hat⟩ := hbk.at'
      have HAT := Lib.hid hat
      have hll := hbk.len
      have HNE := Lib.hid hbk.ne
      have hpl := pre3_len HL.out.1 HL.out.2.1 HL.out.2.2 n
      have HPRE := Lib.hid hpre
      have hd3 : decide ((n : Int) < 3) = true := by simp; omega
      generalize hP : ([l0, l1, l2].take n).flatten = P at *
      clear hge hpre hbk hat
      go_wp2_with fail
      refine (ball_any HAT.out (by omega) HNE.out).mono ?_
      rintro en w2 ⟨v, rfl, ho, hb⟩
      have HM2 := Lib.hid (HM.out.keep (hb.block _ HM.out.lt))
      have HBU2 := Lib.hid (HBU.out.call hb)
      have hlt2 := ho.lt
      obtain ⟨la, lc, rfl, _, _, hls⟩ := ho.slice
      have HLS : Hid (Sl tJn w2 (fun k => wr.heap.size ≤ k) la l) := Lib.hid (Sl.mono (fun k _ hf => by
        rcases hf with hf | hf
        · exact hf.1
        · exact (hlt2 k hf).1) hls)
      clear ho hb hls hlt2 hcell
      go_wp2_with fail
      go_loopw [24] (fun vk wi => ∃ m : Nat, m ≤ l.length ∧ vk = .int .i64 m ∧ MapIs mInt (Value.int .i64) wi (w.heap.size + 1) (cntS (P ++ l.take m)) ∧ But (· = w.heap.size + 1) w2 wi) (fun vk _ => l.length - (intOf vk).toNat)
      case atStart => exact ⟨0, Nat.zero_le _, rfl, by simpa using HM2.out, But.refl _ _⟩
      case round =>
        obtain ⟨m, hm', rfl, hmi, hbi⟩ := hrel
        have HMI := Lib.hid hmi
        have HBI := Lib.hid hbi
        clear hmi hbi
        by_cases hlm : m < l.length
        · obtain ⟨ad, xa, xc, rfl, _, hadl, hc0, hc1, hc2, hc3, hc4, hc5, hr⟩ := jn_at (Sl.keep (fun k hk hf => HBI.out.block k hk (by omega)) HLS.out) m hlm
          have HX := Lib.hid (jcs_inv hr).1
          have HTK : Hid (cntS (P ++ l.take (m + 1)) = sAdd (cntS (P ++ l.take m)) l[m].id 1) := Lib.hid (by rw [List.take_succ_eq_append_getElem hlm, ← List.append_assoc, cntS_snoc])
          clear hr
          generalize l[m] = x at *
          obtain ⟨x1, x2, x3, x4, x5, x6⟩ := x
          simp only at hc0 hc1 hc2 hc3 hc4 hc5 HX HTK
          have hbl := HMI.out.lt
          have hlk := lookI HMI.out Try.underlying68 HX.out (wr.alloc (.cells #[.int .i64 x1, .int .i64 x2, .int .i64 x3, .string x4, .slice xa x5.length xc, .bool x6] 31)) (Below.heap_alloc wr _ _ hbl)
          have HMA : Hid (MapIs mInt (Value.int .i64) (wr.alloc (.cells #[.int .i64 x1, .int .i64 x2, .int .i64 x3, .string x4, .slice xa x5.length xc, .bool x6] 31)) (w.heap.size + 1) (cntS (P ++ l.take m))) := Lib.hid (HMI.out.keep (Below.heap_alloc wr _ _ hbl))
          go_wp2_with (at_mapUpdate; refine wp_update (M := mInt) (ev := Value.int .i64) rfl _ _ _ 68 rfl _ Try.underlying68 (w.heap.size + 1) (cntS (P ++ l.take m)) x1 (wrap64 (at0 (cntS (P ++ l.take m)) x1 + 1)) rfl rfl rfl HMA.out HX.out ?_; intro w3 hm3 ho3; have HM3 := Lib.hid hm3; have HB3 := Lib.hid ((HBI.out.alloc _).only ho3 (.inl rfl)); clear hm3 ho3 hlk)
          go_roundw
          case rel => exact ⟨m + 1, by omega, by go_num, by rw [HTK.out]; exact HM3.out, HB3.out⟩
          case measure => simp [intOf]; omega
        · have HLZ : Hid (P ++ l.take m = ([l0, l1, l2].take (n + 1)).flatten) := Lib.hid (by rw [HPRE.out, take_all hm' hlm])
          go_wp2_with fail
          go_roundw
          case rel => exact ⟨n + 1, by omega, by go_num, by rw [← HLZ.out]; exact HMI.out, HBU2.out.trans HBI.out⟩
          case measure => simp [intOf]; omega
    · have hall : ([l0, l1, l2].take n).flatten = (l0 ++ l1) ++ l2 := by
        have : n = 3 := by omega
        subst this
        simp
      have hmv := HM.out
      rw [hall] at hmv
      have hcl : (cntS ((l0 ++ l1) ++ l2)).length ≤ 1000000 := by
        have := cntS_len ((l0 ++ l1) ++ l2) []
        obtain ⟨b0, b1, b2⟩ := HL.out
        simp only [List.length_append, List.length_nil] at this
        unfold cntS
        omega
      have HC := Lib.hid (sortedII wr.heap.size (w.heap.size + 1) (cntS ((l0 ++ l1) ++ l2)) (wr.alloc (.cells #[.map (some (w.heap.size + 1))] 68)) (by simp) (by rw [blk_cells (blk_new wr (.cells #[.map (some (w.heap.size + 1))] 68)) 0]; rfl) (hmv.keep (Below.heap_alloc wr _ _ hmv.lt)) hcl)
      have hd3 : decide ((n : Int) < 3) = false := by simp; omega
      have hbw := HBW.out.size
      clear hall hmv hcl HM
      go_wp2_with fail
      refine (keysfII (some (w.heap.size + 1)) wr).mono ?_
      rintro en w1 ⟨rfl, rfl⟩
      go_wp2_with fail
      refine HC.out.mono ?_
      rintro en w2 ⟨v, rfl, ho, hb⟩
      have HO := Lib.hid (ho.mono (show w.heap.size ≤ (wr.alloc (.cells #[.map (some (w.heap.size + 1))] 68)).heap.size by simp; omega))
      have HB3 := Lib.hid (belows_then (HBW.out.alloc hbw (.cells #[.map (some (w.heap.size + 1))] 68)) (by simp; omega) hb)
      clear ho hb HC
      go_wp2_with fail
      go_ret
      exact ⟨_, rfl, HO.out, HB3.out⟩
end Go.Proofs.Ytogikjnfmcfbmaa
