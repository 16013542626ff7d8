/- group: a member's sums by account, and what it has with members. -/
import Derived.Test.YtgggpaacagbmcaaGreatX23GroupInner
import Derived.Test.YtgggpaacagbmcaaGreatX14GroupInner
import Derived.Test.YtgggpaacagbmcaaGreatX17GroupInner
import Derived.Test.YtgggpaacagbmcaaGreatX34GroupInner
set_option linter.unusedVariables false
set_option linter.unusedSimpArgs false
namespace Go.Proofs.YtgggpaacagbmcaaGreat
open Go.RowKit Go.Maps Go.Deep Go.Sort Go.Shelf

set_option maxRecDepth 100000 in
set_option maxHeartbeats 2000000 in
theorem keys1II (n : Nat) (hn : 1 ≤ n) (l Bm b : Nat) (lst : List (Int × Int)) (J : List Int → World → Prop)
    (hY : ∀ pre x W, J pre W → pre.length < lst.length → YieldAt Fence.wide (n - 1) Tryz.prog l #[encZ x] W fun e W' => e = .returned (.bool true) ∧ J (pre ++ [x]) W' ∧ KeepsWalks W W')
    (W : World) (hJ : AbidesFrom W.heap.size J) (hm : W.cell? ⟨Bm, 0, none⟩ = some (.map (some b))) (hM : MapIs mInt (Value.int .i64) W b lst) (h0 : J [] W) :
    CallsIn Fence.wide n Tryz.prog 161 #[.func (.yield l) #[] #[], .pointer (some ⟨Bm, 0, none⟩)] W fun e W' => (∃ v, e = .returned v) ∧ ∃ ss : List Int, ss.Perm (lst.map (·.1)) ∧ J ss W' := by
  refine callsIn_of_wp Tryz.func161 rfl trivial ?_ rfl
  simp only [Tryz.ntmps161, List.size_toArray, List.length_cons, List.length_nil, Nat.reduceAdd, Nat.reduceSub, Array.replicate_succ, Array.replicate_zero, List.push_toArray, List.append_toArray, List.nil_append, List.cons_append]
  gi_wp2_with (first
    | (gi_at_range; refine wpIn_range rfl _ 203 rfl 3 Tryz.underlying203 b lst rfl hM ?_; intro w0 hrg0 hg0 hs0)
    | gi_in)
  go_frame
  gi_loopw [3] (fun _ wr => ∃ (ss : List Int), Rng mInt (Value.int .i64) wr b W.heap.size lst ss ∧ J ss wr)
    (fun _ wr => wr.rangeLeft b W.heap.size)
  case atStart =>
    exact ⟨[], hrg0, hJ [] W w0 none h0 hg0 (fun r e => by cases e)⟩
  case round =>
    obtain ⟨ss, hrg, hJs⟩ := hrel
    gi_wp2_with (first
      | (gi_at_next; refine wpIn_next rfl _ rfl b W.heap.size lst ss rfl hrg ?_ ?_)
      | gi_in)
    · intro hp
      gi_wp2
      go_end0
      exact ⟨⟨_, rfl⟩, ss, hp, hJs⟩
    · intro kx v w2 hkv hrg2 hlt hg2 hs2 hen
      have hek : mInt.ek kx = .int .i64 kx := rfl
      rw [hek] at hen ⊢
      have hlen := hrg2.len
      have hJ2 : J ss w2 := hJ ss wr w2 (some W.heap.size) hJs hg2 (fun r e => by cases e; exact ⟨Nat.le_refl _, hrg.iter_walk⟩)
      obtain ⟨fn, tmps, assign, body, hy, hR⟩ := hY ss kx _ hJ2 (by simp at hlen; omega)
      clear hs2
      gi_wp2
      refine hR.mono ?_
      rintro e W3 ⟨rfl, hJ4, hk4⟩
      have hrg4 := hrg2.of_walks hk4
      gi_wp2
      go_roundw
      case rel => exact ⟨ss ++ [kx], hrg4, hJ4⟩
      case measure =>
        have e1 := rangeLeft_walks hk4 hrg2
        rw [e1]
        exact hlt
theorem keysfII (mb : Option Nat) (w : World) :
    Calls Tryz.prog 134 #[.map mb] w fun e w' => e = .returned (.func (.func 161) #[] #[.pointer (some ⟨w.heap.size, 0, none⟩)]) ∧ w' = w.alloc (.cells #[.map mb] 203) := by
  go_enter Tryz.func134, Tryz.ntmps134
  go_wp2_with fail
  go_ret
  exact ⟨rfl, rfl⟩
theorem givesII (n : Nat) (hn : 1 ≤ n) (Bm b : Nat) (lst : List (Int × Int)) (w : World) (hBm : Bm < w.heap.size) (hm : w.cell? ⟨Bm, 0, none⟩ = some (.map (some b))) (hM : MapIs mInt (Value.int .i64) w b lst) :
    SeqGives Fence.wide n Tryz.prog 161 #[.pointer (some ⟨Bm, 0, none⟩)] encZ (fun ss => ss.Perm (lst.map (·.1))) lst.length w := fun l J W hW hJ hY h0 =>
  keys1II n hn l Bm b lst J hY W hJ ((hW.cell (p := ⟨Bm, 0, none⟩) hBm).trans hm) (hM.keep (hW.block b hM.lt)) h0
theorem sortedII (Bm b : Nat) (lst : List (Int × Int)) (w : World) (hBm : Bm < w.heap.size) (hm : w.cell? ⟨Bm, 0, none⟩ = some (.map (some b))) (hM : MapIs mInt (Value.int .i64) w b lst) (hl : lst.length ≤ 1000000) :
    Calls Tryz.prog 133 #[.func (.func 161) #[] #[.pointer (some ⟨Bm, 0, none⟩)]] w (SrtPost w (lst.map (·.1))) :=
  sorted_is 161 #[.pointer (some ⟨Bm, 0, none⟩)] (enters_of Tryz.func161 (by kernel_rfl) rfl) (lst.map (·.1)) (fun k hk => by obtain ⟨x, hx, rfl⟩ := List.mem_map.1 hk; exact hM.oks x hx) (by rw [List.length_map]; exact hl) w (by rw [List.length_map]; exact givesII 2 (by omega) Bm b lst w hBm hm hM)

theorem abs_then {K : Act → World → Prop} {Q : Exit → Act → World → Prop} {e : Exit} {a : Act} {W : World} {S : World → Prop} (h : ∀ wx, S wx → Exit.then K Q e a wx) (hs : S W) : Exit.then K Q e a W := h W hs
/-- the sum as the program reckons it -/
def outS (ls : List Ln) : Int := ls.foldl (fun o x => wrap64 (o + x.amt)) 0
theorem outS_snoc (ls : List Ln) (x : Ln) : outS (ls ++ [x]) = wrap64 (outS ls + x.amt) := by
  unfold outS
  rw [List.foldl_append]
  rfl
theorem outL_snoc (ms : List Mb) (ls : List Ln) (x : Ln) : outL ms (ls ++ [x]) = if innB ms x.par then outL ms ls else outL ms ls ++ [x] := by
  unfold outL
  rw [List.filter_append]
  cases h : innB ms x.par <;> simp [h]
theorem inL_snoc (ms : List Mb) (ls : List Ln) (x : Ln) : inL ms (ls ++ [x]) = if innB ms x.par then inL ms ls ++ [x] else inL ms ls := by
  unfold inL
  rw [List.filter_append]
  cases h : innB ms x.par <;> simp [h]
theorem sumA_snoc : ∀ (ls : List Ln) (x : Ln), sumA (ls ++ [x]) = sumA ls + x.amt
  | [], x => by simp [sumA]
  | y :: r, x => by
    have := sumA_snoc r x
    simp only [List.cons_append, sumA, this]
    omega
theorem sumA_bd : ∀ (ls : List Ln), (∀ x ∈ ls, -1000000000000000 ≤ x.amt ∧ x.amt ≤ 1000000000000000) → -(1000000000000000 * (ls.length : Int)) ≤ sumA ls ∧ sumA ls ≤ 1000000000000000 * (ls.length : Int)
  | [], _ => by simp [sumA]
  | v :: r, h => by
    have ih := sumA_bd r (fun y hy => h y (List.mem_cons_of_mem _ hy))
    have hv := h v (List.mem_cons_self ..)
    simp only [sumA, List.length_cons]
    omega
theorem outS_is : ∀ (n : Nat) (ls : List Ln), ls.length = n → n ≤ 8000 → (∀ x ∈ ls, -1000000000000000 ≤ x.amt ∧ x.amt ≤ 1000000000000000) → outS ls = sumA ls := by
  intro n
  induction n with
  | zero =>
    intro ls hl _ _
    rw [List.length_eq_zero_iff.1 hl]
    rfl
  | succ n ih =>
    intro ls hl hn hb
    obtain ⟨r, x, rfl⟩ : ∃ r x, ls = r ++ [x] := ⟨ls.dropLast, ls.getLast (by intro e; rw [e] at hl; simp at hl), (List.dropLast_concat_getLast _).symm⟩
    have hr : r.length = n := by simpa using hl
    have h1 := ih r hr (by omega) (fun y hy => hb y (List.mem_append_left _ hy))
    have h2 := sumA_bd r (fun y hy => hb y (List.mem_append_left _ hy))
    have h3 := hb x (by simp)
    rw [outS_snoc, sumA_snoc, h1]
    have h4 : (r.length : Int) ≤ 7999 := by omega
    unfold wrap64
    omega
/-- what lines tells, its sums as the program reckons them -/
def linW (ms : List Mb) (J : List Jn) (e p : Int) : (List (Int × Int) × Int) × Int :=
  if !(tellS (accS [] (outL ms (linesOf J e 0 p)))).all (fun x => fitsB x.2) then (([], 0), 2) else if !fitsB (outS (inL ms (linesOf J e 0 p))) then (([], 0), 2) else ((tellS (accS [] (outL ms (linesOf J e 0 p))), outS (inL ms (linesOf J e 0 p))), 0)
theorem linW_is {J : List Jn} (ms : List Mb) (e p : Int) (hb : ∀ x ∈ linesOf J e 0 p, -1000000000000000 ≤ x.amt ∧ x.amt ≤ 1000000000000000) (hl : (linesOf J e 0 p).length ≤ 8000) : linW ms J e p = linT ms J e p := by
  have h1 : (inL ms (linesOf J e 0 p)).length ≤ 8000 := Nat.le_trans (List.length_filter_le _ _) hl
  have := outS_is _ (inL ms (linesOf J e 0 p)) rfl h1 (fun x hx => hb x (List.mem_filter.1 hx).1)
  unfold linW linT
  rw [this]
theorem cnt_cases2 {e p : Int} {j : Jn} {b : Bool} (h : cnt e 0 p j = b) (hp : 0 ≤ j.pe) : (b = false ∧ (j.void = true ∨ j.void = false ∧ ((j.en != e) = true ∨ (j.en != e) = false ∧ decide (p < j.pe) = true))) ∨
    (b = true ∧ j.void = false ∧ (j.en != e) = false ∧ decide (p < j.pe) = false) := by
  subst h
  unfold cnt
  rw [show decide (0 ≤ j.pe) = true by simpa using hp]
  by_cases h1 : j.en = e <;> by_cases h2 : j.pe ≤ p <;> cases j.void <;> simp [h1, h2] <;> omega
theorem outS_wf : ∀ (ls : List Ln), I64 (outS ls) := fun ls => by
  rcases List.eq_nil_or_concat ls with rfl | ⟨r, x, rfl⟩
  · decide
  · rw [List.concat_eq_append, outS_snoc]
    exact wrap64_wf _
theorem outL_len (ms : List Mb) (ls : List Ln) : (outL ms ls).length ≤ ls.length := List.length_filter_le _ _
theorem fits_tell {s : List (Int × Int)} {n : Nat} {ks : List Int} (h : srt (s.map (·.1)) = ks) (hn : n < ks.length) (hf : fitsB (at0 s ks[n]) = false) : (tellS s).all (fun x => fitsB x.2) = false := by
  rw [List.all_eq_false]
  refine ⟨(ks[n], at0 s ks[n]), ?_, by simp [hf]⟩
  unfold tellS
  rw [h, List.mem_flatMap]
  refine ⟨_, List.getElem_mem hn, ?_⟩
  unfold tellK
  have h0 : at0 s ks[n] ≠ 0 := fun e => by rw [e] at hf; cases hf
  rw [if_neg (by simpa using h0)]
  exact List.mem_singleton.2 rfl

set_option maxHeartbeats 8000000 in
set_option maxRecDepth 100000 in
theorem grLines_any {w : World} {W : Nat} {c g : Nat} {p : Int} {ma : Option Addr} {ms : List Mb} {mc : Nat} {x4 x5 x6 x7 : Value} (hw : w.heap[W]? = some (.cells (wkC c g p ma ms mc x4 x5 x6 x7) 96 (0, 0)))
    {G : Nat → Prop} (hms : Sl tMb w G ma ms) (hml : ms.length ≤ maxLen) {a : Option Addr} {cap : Nat} {l : List Jn} {F : Nat → Prop} (hbk : BookAt w g a cap l F) (hl : l.length ≤ 1000) (hgood : GoodJ l) (hpe : ∀ x ∈ l, 0 ≤ x.pe) (m : Mb) :
    Calls Tryz.prog 93 #[.pointer (some ⟨W, 0, none⟩), mbv m] w (TrnPost w (linW ms l m.en p)) := by
  obtain ⟨en, sh, cl, av, ol⟩ := m
  have hwl := blk_lt hw
  obtain ⟨tr, htr⟩ : ∃ tr, linW ms l en p = tr := ⟨_, rfl⟩
  rw [show (Mb.mk en sh cl av ol).en = en from rfl, htr]
  have HTR := Lib.hid htr
  have HB2 := Lib.hid (((Below.refl w.heap.size w).alloc (Nat.le_refl _) (.cells #[.int .i64 en, .int .i64 sh, .int .i64 cl, .int .i64 av, .int .i64 ol] 72)).alloc (by simp) (.map #[] 0))
  have hw2 : Below w.heap.size w ((w.alloc (.cells #[.int .i64 en, .int .i64 sh, .int .i64 cl, .int .i64 av, .int .i64 ol] 72)).alloc (.map #[] 0)) := HB2.out
  have HK := Lib.hid (hbk.below hw2)
  have HM : Hid (MapIs mInt (Value.int .i64) ((w.alloc (.cells #[.int .i64 en, .int .i64 sh, .int .i64 cl, .int .i64 av, .int .i64 ol] 72)).alloc (.map #[] 0)) (w.heap.size + 1) []) := Lib.hid (by have := MapIs.new mInt (Value.int .i64) (w.alloc (.cells #[.int .i64 en, .int .i64 sh, .int .i64 cl, .int .i64 av, .int .i64 ol] 72)); simpa using this)
  have HZ := Lib.hid (blk_alloc (blk_new w (.cells #[.int .i64 en, .int .i64 sh, .int .i64 cl, .int .i64 av, .int .i64 ol] 72)) (.map #[] 0))
  have HW := Lib.hid (blk_below hw hw2)
  have HMS := Lib.hid hms
  have HGOOD := Lib.hid hgood
  have HPE := Lib.hid hpe
  have HWW := Lib.hid hw
  clear hbk hgood hw2 hpe hms hw htr
  have hmm := @run_makeMap Tryz.prog
  obtain ⟨i0, hi, hz0, hz1, hz2⟩ := info_parts infoBal
  go_enter Tryz.func93, Tryz.ntmps93
  have hcw := blk_cells HW.out
  go_wp2_with fail
  clear hmm hcw
  refine (ball_any HK.out hl HGOOD.out.ne).mono ?_
  rintro en1 w1 ⟨v, rfl, ho, hb⟩
  have HOWN := Lib.hid ho.lt
  obtain ⟨a1, c1, rfl, hle1, hcm1, hsl⟩ := ho.slice
  have hsz1 : w.heap.size + 2 ≤ w1.heap.size := by have := hb.size; simpa using this
  have HS : Hid (Sl tJn w1 (fun k => w.heap.size + 2 ≤ k) a1 l) := Lib.hid (Sl.mono (fun k _ hk => by rcases hk with hk | hk; (have := hk.1; simpa using this); (have := (HOWN.out k hk).1; simpa using this)) hsl)
  have HM1 := Lib.hid (HM.out.keep (hb.block (w.heap.size + 1) (by simp)))
  have HB1 := Lib.hid (HB2.out.trans (hb.mono (by simp; omega)))
  have HZ1 := Lib.hid (blk_below HZ.out hb)
  have HW1 := Lib.hid (blk_below HW.out hb)
  have HMS1 : Hid (Sl tMb w1 (fun k => k < w.heap.size) ma ms) := Lib.hid (Sl.keep (fun k hk _ => HB1.out.block k hk) (Sl.mono (fun k hk _ => hk) HMS.out))
  have hl' : l.length ≤ 9223372036854775807 := by omega
  obtain ⟨bm, hbm⟩ : ∃ bm, w.heap.size + 1 = bm := ⟨_, rfl⟩
  have HBM := Lib.hid hbm
  rw [hbm] at HM1
  clear ho hb hsl hcm1 hle1 HOWN HM HK HB2 HZ HW
  simp only [hbm]
  clear hbm
  go_wp2_with fail
  go_loopw [8, 23] (fun vo vi wr => ∃ n : Nat, n ≤ l.length ∧ vi = .int .i64 n ∧ vo = .int .i64 (outS (inL ms (linesOf (l.take n) en 0 p))) ∧ MapIs mInt (Value.int .i64) wr bm (accS [] (outL ms (linesOf (l.take n) en 0 p))) ∧ But (· = bm) w1 wr) (fun _ vi _ => l.length - (Go.RowKit.intOf vi).toNat)
  case atStart => exact ⟨0, Nat.zero_le _, rfl, rfl, HM1.out, But.refl _ _⟩
  case round =>
    obtain ⟨n, hn, rfl, rfl, hm, hbut⟩ := hrel
    have HMR := Lib.hid hm
    have HBR := Lib.hid hbut
    have hbme := HBM.out
    clear hm hbut
    by_cases hlt : n < l.length
    · obtain ⟨ad, la, lc, rfl, _, hadl, hc0, hc1, hc2, hc3, hc4, hc5, hr⟩ := jn_at (Sl.keep (fun k hk hF => HBR.out.block k hk (fun e => by have hF' : w.heap.size + 2 ≤ k := hF; omega)) HS.out) n hlt
      obtain ⟨_, _, _, _, hln, hll, hlc, _⟩ := jcs_inv hr
      have HLN := Lib.hid hln
      have hpj := HPE.out _ (List.getElem_mem hlt)
      have HSU := Lib.hid (linesOf_succ en 0 p l n hlt)
      have hlen : l[n].lines.length ≤ 9223372036854775807 := by unfold maxLen at hlc; omega
      generalize l[n] = j at *
      obtain ⟨j1, j2, j3, j4, j5, j6⟩ := j
      simp only at hc0 hc1 hc2 hc3 hc4 hc5 hlen hpj
      have HLN5 : Hid (Sl tLn wr (fun k => w.heap.size + 2 ≤ k) la j5) := Lib.hid HLN.out
      generalize hS : linesOf (l.take n) en 0 p = S at *
      have HSE := Lib.hid hS
      clear hr hln hll hlc hS HLN
      go_wp2_with fail
      refine abs_world (S := fun wx => But (· = bm) w1 wx ∧ MapIs mInt (Value.int .i64) wx bm (accS [] (outL ms S)) ∧ wx.heap[wr.heap.size]? = some (.cells #[.int .i64 j1, .int .i64 j2, .int .i64 j3, .string j4, .slice la j5.length lc, .bool j6] 81 (0, 0)) ∧ Sl tLn wx (fun k => w.heap.size + 2 ≤ k) la j5) ?_ ⟨HBR.out.alloc _, HMR.out.keep (Below.heap_alloc wr _ bm HMR.out.lt), blk_new wr _, Sl.keep (fun k hk _ => Below.heap_alloc wr _ k hk) HLN5.out⟩
      rintro wx ⟨hbx, hmx, hjx, hsx⟩
      have HBX := Lib.hid hbx
      have HMX := Lib.hid hmx
      have HJX := Lib.hid hjx
      have HSX := Lib.hid hsx
      have hjc := blk_cells hjx
      have hjl := blk_lt hjx
      have hzc := blk_cells ((hbx.block w.heap.size (by omega) (by omega)).trans HZ1.out)
      have hwc := blk_cells ((hbx.block W (by omega) (by omega)).trans HW1.out)
      have HWX := Lib.hid ((hbx.block W (by omega) (by omega)).trans HW1.out)
      clear hbx hmx hjx hsx HMR HLN5 hc0 hc1 hc2 hc3 hc4 hc5 hadl
      cases hc : cnt en 0 p ⟨j1, j2, j3, j4, j5, j6⟩
      · have HN : Hid (linesOf (l.take (n + 1)) en 0 p = S) := Lib.hid (by rw [HSU.out, hc]; simp)
        obtain ⟨_, hcs⟩ := (cnt_cases2 hc hpj).resolve_right (fun h => by cases h.1)
        simp only at hcs
        clear hc
        rcases hcs with h | ⟨h, h2 | ⟨h2, h3⟩⟩
        all_goals
          go_quiet (fail)
          go_wp2_with fail
          go_roundw
          case rel => exact ⟨n + 1, by omega, by go_num, by rw [HN.out], by rw [HN.out]; exact HMX.out.keep rfl, HBX.out.drewN _⟩
          case measure => simp [Go.RowKit.intOf]; omega
      · obtain ⟨_, h1, h2, h3⟩ := (cnt_cases2 hc hpj).resolve_left (fun h => by cases h.1)
        have HN : Hid (linesOf (l.take (n + 1)) en 0 p = S ++ j5) := Lib.hid (by rw [HSU.out, hc]; rfl)
        simp only at h1 h2 h3
        clear hc
        go_quiet (fail)
        refine abs_then (S := fun wy => But (· = bm) w1 wy ∧ MapIs mInt (Value.int .i64) wy bm (accS [] (outL ms S)) ∧ wy.heap[wr.heap.size]? = some (.cells #[.int .i64 j1, .int .i64 j2, .int .i64 j3, .string j4, .slice la j5.length lc, .bool j6] 81 (0, 0)) ∧ Sl tLn wy (fun k => w.heap.size + 2 ≤ k) la j5) ?_ ⟨HBX.out.drewN _, HMX.out.keep rfl, HJX.out, Sl.keep (w := wx) (fun k hk _ => rfl) HSX.out⟩
        clear hjc hjl hzc hwc HWX HBX HMX HJX HSX
        rintro w2 ⟨hb2, hm2, hj2, hs2⟩
        have HB2 := Lib.hid hb2
        have HM2 := Lib.hid hm2
        have HS2 := Lib.hid hs2
        have hjc := blk_cells hj2
        have hjl := blk_lt hj2
        clear hb2 hm2 hj2 hs2
        go_wp2_with fail
        go_loopw [8, 48] (fun vo vk wi => ∃ m : Nat, m ≤ j5.length ∧ vk = .int .i64 m ∧ vo = .int .i64 (outS (inL ms (S ++ j5.take m))) ∧ MapIs mInt (Value.int .i64) wi bm (accS [] (outL ms (S ++ j5.take m))) ∧ But (· = bm) w2 wi) (fun _ vk _ => j5.length - (Go.RowKit.intOf vk).toNat)
        case atStart => exact ⟨0, Nat.zero_le _, rfl, by rw [List.take_zero, List.append_nil], by rw [List.take_zero, List.append_nil]; exact HM2.out, But.refl _ _⟩
        case round =>
          obtain ⟨m, hm, rfl, rfl, hmi, hbi⟩ := hrel
          have HMI := Lib.hid hmi
          have HBI := Lib.hid (HB2.out.trans hbi)
          have HB2I := Lib.hid hbi
          clear hmi hbi
          by_cases hlm : m < j5.length
          · obtain ⟨ad2, rfl, _, hadl2, hq0, hq1, hq2, g0, g1, g2⟩ := ln_at (Sl.keep (fun k hk hF => HB2I.out.block k hk (fun e => by have hF' : w.heap.size + 2 ≤ k := hF; omega)) HS2.out) m hlm
            have HT : Hid (S ++ j5.take (m + 1) = (S ++ j5.take m) ++ [j5[m]]) := Lib.hid (by rw [List.take_succ_eq_append_getElem hlm, List.append_assoc])
            generalize j5[m] = x at *
            obtain ⟨x1, x2, x3⟩ := x
            simp only at hq0 hq1 hq2 g0 g1 g2
            obtain ⟨LS, hLS⟩ : ∃ LS, S ++ j5.take m = LS := ⟨_, rfl⟩
            rw [hLS] at HT HMI
            rw [hLS]
            have HLS := Lib.hid hLS
            have HKEY := Lib.hid g0
            have HWI := Lib.hid (blk_alloc ((HBI.out.block W (by omega) (by omega)).trans HW1.out) (.cells #[.int .i64 x1, .int .i64 x2, .int .i64 x3] 74))
            have HMSI : Hid (Sl tMb (wr.alloc (.cells #[.int .i64 x1, .int .i64 x2, .int .i64 x3] 74)) (fun k => k < w.heap.size) ma ms) := Lib.hid (Sl.keep (fun k hk _ => Below.heap_alloc wr _ k hk) (Sl.keep (fun k hk hF => HBI.out.block k hk (fun e => by have hF' : k < w.heap.size := hF; omega)) HMS1.out))
            have HC := Lib.hid (grInner_any HWI.out HMSI.out hml x3)
            have HLN := Lib.hid (blk_new wr (.cells #[.int .i64 x1, .int .i64 x2, .int .i64 x3] 74))
            have HMA := Lib.hid (HMI.out.keep (Below.heap_alloc wr (.cells #[.int .i64 x1, .int .i64 x2, .int .i64 x3] 74) bm HMI.out.lt))
            clear g0 g1 g2 hLS
            cases hin : innB ms x3
            · rw [hin] at HC
              have HN1 : Hid (outS (inL ms (S ++ j5.take (m + 1))) = outS (inL ms LS)) := Lib.hid (by rw [HT.out, inL_snoc]; simp [hin])
              have HN2 : Hid (accS [] (outL ms (S ++ j5.take (m + 1))) = ins (accS [] (outL ms LS)) x1 (wrap64 (at0 (accS [] (outL ms LS)) x1 + x2))) := Lib.hid (by rw [HT.out, outL_snoc]; simp only [hin, Bool.false_eq_true, if_false]; rw [accS_snoc]; rfl)
              clear hin
              go_wp2_with fail
              refine HC.out.mono ?_
              rintro en3 w3 ⟨rfl, hb⟩
              have HM3 := Lib.hid (HMA.out.keep (hb.block bm HMA.out.lt))
              have hlk := lookI HM3.out Tryz.underlying203 HKEY.out w3 rfl
              have hlc := blk_cells (blk_below HLN.out hb)
              have HBU3 := Lib.hid (((HB2I.out.alloc (.cells #[.int .i64 x1, .int .i64 x2, .int .i64 x3] 74))).call hb)
              obtain ⟨A, hA⟩ : ∃ A, accS [] (outL ms LS) = A := ⟨_, rfl⟩
              rw [hA] at HM3 hlk HN2
              clear hb hq0 hq1 hq2 hadl2 HC hA
              go_wp2_with (at_mapUpdate; refine wp_update (M := mInt) (ev := Value.int .i64) rfl _ _ _ 203 rfl _ Tryz.underlying203 bm A x1 (wrap64 (at0 A x1 + x2)) rfl rfl rfl HM3.out HKEY.out ?_; intro w4 hm4 ho4; have HM4 := Lib.hid hm4; have HBU4 := Lib.hid (HBU3.out.only ho4 (.inl rfl)); clear hm4 ho4)
              go_roundw
              case rel => exact ⟨m + 1, by omega, by go_num, by rw [HN1.out], by rw [HN2.out]; exact HM4.out, HBU4.out⟩
              case measure => simp [Go.RowKit.intOf]; omega
            · rw [hin] at HC
              have HN1 : Hid (outS (inL ms (S ++ j5.take (m + 1))) = wrap64 (outS (inL ms LS) + x2)) := Lib.hid (by rw [HT.out, inL_snoc]; simp only [hin, if_true]; rw [outS_snoc])
              have HN2 : Hid (accS [] (outL ms (S ++ j5.take (m + 1))) = accS [] (outL ms LS)) := Lib.hid (by rw [HT.out, outL_snoc]; simp only [hin, if_true])
              clear hin
              go_wp2_with fail
              refine HC.out.mono ?_
              rintro en3 w3 ⟨rfl, hb⟩
              have HM3 := Lib.hid (HMA.out.keep (hb.block bm HMA.out.lt))
              have hlc := blk_cells (blk_below HLN.out hb)
              have HBU3 := Lib.hid (((HB2I.out.alloc (.cells #[.int .i64 x1, .int .i64 x2, .int .i64 x3] 74))).call hb)
              clear hb hq0 hq1 hq2 hadl2 HC
              go_wp2_with fail
              go_roundw
              case rel => exact ⟨m + 1, by omega, by go_num, by rw [HN1.out], by rw [HN2.out]; exact HM3.out, HBU3.out⟩
              case measure => simp [Go.RowKit.intOf]; omega
          · have HL : Hid (S ++ j5.take m = linesOf (l.take (n + 1)) en 0 p) := Lib.hid (by rw [HN.out, take_all hm hlm])
            rw [HL.out]
            have hmi := HMI.out
            rw [HL.out] at hmi
            have HMF := Lib.hid hmi
            clear hmi
            go_wp2_with fail
            go_roundw
            case rel => exact ⟨n + 1, by omega, by go_num, rfl, HMF.out, HBI.out⟩
            case measure => simp [Go.RowKit.intOf]; omega
    · have HL : Hid (l.take n = l) := Lib.hid (take_all hn hlt)
      have hmi := HMR.out
      rw [HL.out] at hmi ⊢
      have HTE := Lib.hid HTR.out
      have hslen : (accS [] (outL ms (linesOf l en 0 p))).length ≤ 8000 := by
        have h1 := accS_len (outL ms (linesOf l en 0 p)) []
        have h2 := outL_len ms (linesOf l en 0 p)
        have h3 := linesOf_len HGOOD.out hl en 0 p
        simp only [List.length_nil] at h1
        omega
      have HVAL := Lib.hid (accS_vals (outL ms (linesOf l en 0 p)) [] (fun x hx => by simp at hx))
      have how := outS_wf (inL ms (linesOf l en 0 p))
      unfold linW at HTE
      obtain ⟨s, hs⟩ : ∃ s, accS [] (outL ms (linesOf l en 0 p)) = s := ⟨_, rfl⟩
      obtain ⟨o, ho⟩ : ∃ o, outS (inL ms (linesOf l en 0 p)) = o := ⟨_, rfl⟩
      rw [hs] at hmi HTE hslen HVAL
      rw [ho] at HTE how
      rw [ho]
      have HM := Lib.hid hmi
      have HOW := Lib.hid how
      have hbl := hmi.lt
      have HBW : Hid (Below w.heap.size w wr) := Lib.hid (But.toBelow HB1.out HBR.out (fun k e => by omega) HB1.out.size)
      clear hmi hs ho how HTR HMR HBR HS
      have hM1 : MapIs mInt (Value.int .i64) (wr.alloc (.cells #[.map (some bm)] 203)) bm s := HM.out.keep (Below.heap_alloc wr _ bm hbl)
      have HC := Lib.hid (sortedII wr.heap.size bm s (wr.alloc (.cells #[.map (some bm)] 203)) (by simp) (by rw [blk_cells (blk_new wr (.cells #[.map (some bm)] 203)) 0]; rfl) hM1 (by omega))
      clear hM1
      go_wp2_with fail
      refine (keysfII (some bm) wr).mono ?_
      rintro en w1 ⟨rfl, rfl⟩
      go_wp2_with fail
      refine HC.out.mono ?_
      rintro en w2 ⟨v, rfl, ho, hb⟩
      have HB2 := Lib.hid (belows_then ((Below.refl wr.heap.size wr).alloc (Nat.le_refl _) (.cells #[.map (some bm)] 203)) (by simp) hb)
      have hkl := srt_len (s.map (·.1))
      rw [List.length_map] at hkl
      obtain ⟨ka, kc, rfl, _, _, hks⟩ := ho.slice
      generalize hke : srt (s.map (·.1)) = ks at hks hkl ⊢
      have HKE := Lib.hid hke
      have HKS := Lib.hid hks
      have hks' : ks.length ≤ 8000 := by omega
      clear ho hb hks hke hkl HC
      have HBA2 := Lib.hid (belows_then HBW.out HBW.out.size HB2.out)
      have HM2 := Lib.hid (HM.out.keep (HB2.out.block bm hbl))
      go_wp2_with fail
      go_loopw [13, 73] (fun vo vi wr => ∃ (n : Nat) (vx : Value), vx = vo ∧ n ≤ ks.length ∧ vi = .int .i64 n ∧ OwnL tBal wr w2.heap.size vx ((ks.take n).flatMap (tellK s)) ∧ Below w2.heap.size w2 wr ∧ Hid (((ks.take n).flatMap (tellK s)).all (fun x => fitsB x.2) = true)) (fun _ vi _ => ks.length - (Go.RowKit.intOf vi).toNat)
      case atStart => exact ⟨0, _, rfl, Nat.zero_le _, rfl, OwnL.nil _ _, Below.refl _ _, Lib.hid rfl⟩
      case round =>
        obtain ⟨n, vo, rfl, hn, rfl, ho, hb, hfit⟩ := hrel
        have HO := Lib.hid ho
        have HBR := Lib.hid hb
        clear ho hb
        by_cases hlt : n < ks.length
        · obtain ⟨ad, rfl, hadl, hc0⟩ := int_at (Sl.keep (fun k hk _ => HBR.out.block k hk) HKS.out) n hlt
          have HKW : Hid (I64 ks[n]) := Lib.hid (by
            have hm : ks[n] ∈ s.map (·.1) := srt_mem.1 (by rw [HKE.out]; exact List.getElem_mem hlt)
            obtain ⟨x, hx, hxe⟩ := List.mem_map.1 hm
            rw [← hxe]
            exact HM.out.oks x hx)
          have HMR := Lib.hid (HM2.out.keep (HBR.out.block bm HM2.out.lt))
          have hlk := lookI HMR.out Tryz.underlying203 HKW.out wr rfl
          have HLK := Lib.hid (fun W h => lookI HMR.out Tryz.underlying203 HKW.out W h)
          have HVW := Lib.hid (at0_val HVAL.out ks[n])
          have HST := Lib.hid (flat_succ (tellK s) ks n hlt)
          have HNO := Lib.hid (fun h => fits_tell (s := s) HKE.out hlt h)
          have hlen : ((ks.take n).flatMap (tellK s)).length ≤ 8000 := by
            have := flat_len1 _ (tellK_len s) (ks.take n)
            rw [List.length_take] at this
            omega
          have HTK : Hid (tellK s ks[n] = if at0 s ks[n] == 0 then [] else [(ks[n], at0 s ks[n])]) := Lib.hid rfl
          generalize hat : at0 s ks[n] = v at hlk HVW HLK HNO HTK
          generalize tellK s ks[n] = tk at HTK HST
          obtain ⟨X, hX⟩ : ∃ X, (ks.take n).flatMap (tellK s) = X := ⟨_, rfl⟩
          obtain ⟨X1, hX1⟩ : ∃ X1, (ks.take (n + 1)).flatMap (tellK s) = X1 := ⟨_, rfl⟩
          have ho := HO.out
          rw [hX] at hlen hfit ho
          rw [hX, hX1] at HST
          have HX := Lib.hid hX
          have HX1 := Lib.hid hX1
          have HO1 := Lib.hid ho
          obtain ⟨kk, hkk⟩ : ∃ kk, ks[n] = kk := ⟨_, rfl⟩
          rw [hkk] at hlk hc0 HKW HLK HTK
          have HIC := Lib.hid (blk_new wr (.cells #[.int .i64 v] 3))
          have HBA := Lib.hid (HBR.out.alloc HBR.out.size (.cells #[.int .i64 v] 3))
          have HOA := Lib.hid (HO1.out.alloc (.cells #[.int .i64 v] 3))
          have HMA := Lib.hid (HMR.out.keep (Below.heap_alloc wr (.cells #[.int .i64 v] 3) bm HMR.out.lt))
          clear hat hX hX1 ho HO hkk
          go_wp2_with fail
          cases hfv : fitsB v
          · have HR : Hid (tr = (([], 0), 2)) := Lib.hid (by rw [← HTE.out, HNO.out hfv]; rfl)
            refine (mfits_lo v _ _ HIC.out HVW.out hfv).mono ?_
            rintro en w6 ⟨rfl, hb⟩
            have HB6 := Lib.hid (belows_then HBA.out HBA.out.size hb)
            clear hb hc0 hadl hfv hlk
            go_wp2_with fail
            go_ret3
            rw [HR.out]
            exact ⟨_, rfl, OwnL.nil _ _, belows_then HBA2.out HBA2.out.size HB6.out⟩
          · refine (mfits_lo v _ _ HIC.out HVW.out hfv).mono ?_
            rintro en w6 ⟨rfl, hb⟩
            have HB6 := Lib.hid (belows_then HBA.out HBA.out.size hb)
            have HO6 := Lib.hid (HOA.out.below hb)
            have hlk6 := HLK.out w6 ((hb.block bm HMA.out.lt).trans (Below.heap_alloc wr _ bm HMR.out.lt))
            clear hb hc0 hadl hlk
            cases hv0 : v == 0
            · have hv1 : (v != 0) = true := by simpa using hv0
              have HN : Hid (X1 = X ++ [(kk, v)]) := Lib.hid (by rw [HST.out, HTK.out, hv0]; rfl)
              have HF : Hid (X1.all (fun x => fitsB x.2) = true) := Lib.hid (by rw [HN.out, List.all_append, hfit.out]; simpa using hfv)
              have HO7 := Lib.hid (HO6.out.alloc (.cells #[.int .i64 kk, .int .i64 v] 62))
              have HB7 := Lib.hid (HB6.out.alloc HB6.out.size (.cells #[.int .i64 kk, .int .i64 v] 62))
              have HSL : Hid (Sl tBal (w6.alloc (.cells #[.int .i64 kk, .int .i64 v] 62)) (fun k => some k ≠ vo.ownBlock ∧ k < (w6.alloc (.cells #[.int .i64 kk, .int .i64 v] 62)).heap.size) (some ⟨w6.heap.size, 0, none⟩) [(kk, v)]) :=
                Lib.hid (sl_one2 tBal (x := (kk, v)) rfl (blk_new w6 _) ⟨fun e => by have := (HO6.out.lt _ e.symm).2; omega, by simp⟩ (bal_mk (kk, v) HKW.out HVW.out))
              have h63 : X.length + [((kk, v) : Int × Int)].length ≤ maxLen := by simp only [List.length_cons, List.length_nil]; unfold maxLen; omega
              have hby : (X.length + [((kk, v) : Int × Int)].length) * 16 ≤ 140737488355328 := by simp only [List.length_cons, List.length_nil]; omega
              clear hv0 hfv
              go_wp2_with (at_builtin; refine wp_app (T := tBal) rfl _ _ 49 rfl i0 (.agg #[.int .i64 0, .int .i64 0]) 16 Tryz.underlying49 hi hz0 hz1 hz2 rfl (by decide) bal_one w2.heap.size vo X rfl HO7.out ⟨w6.heap.size, 0, none⟩ 1 [(kk, v)] rfl HSL.out h63 hby HB7.out.size ?_; intro v3 w7 hown hg hnil hat; have HO8 := Lib.hid hown; have HB8 := Lib.hid (Below.grown HB7.out hg HB7.out.size (fun k e => (HO7.out.lt k e).1)); clear hown hg hnil hat)
              go_roundw
              case rel => exact ⟨n + 1, _, rfl, by omega, by go_num, by rw [HX1.out, HN.out]; exact HO8.out, HB8.out, by rw [HX1.out]; exact HF⟩
              case measure => simp [Go.RowKit.intOf]; omega
            · have hv1 : (v != 0) = false := by simpa using hv0
              have HN : Hid (X1 = X) := Lib.hid (by rw [HST.out, HTK.out, hv0]; simp)
              clear hv0 hfv
              go_wp2_with fail
              go_roundw
              case rel => exact ⟨n + 1, _, rfl, by omega, by go_num, by rw [HX1.out, HN.out]; exact HO6.out, HB6.out, by rw [HX1.out, HN.out]; exact hfit⟩
              case measure => simp [Go.RowKit.intOf]; omega
        · have HL : Hid (ks.take n = ks) := Lib.hid (take_all hn hlt)
          have HTS : Hid ((ks.take n).flatMap (tellK s) = tellS s) := Lib.hid (by rw [HL.out, ← HKE.out]; rfl)
          have ho := HO.out
          have hf := hfit.out
          rw [HTS.out] at ho hf
          have HOF := Lib.hid ho
          have HIC := Lib.hid (blk_new wr (.cells #[.int .i64 o] 3))
          have HBA := Lib.hid (HBR.out.alloc HBR.out.size (.cells #[.int .i64 o] 3))
          have HOA := Lib.hid (HOF.out.alloc (.cells #[.int .i64 o] 3))
          have HTF : Hid (tr = if !fitsB o then (([], 0), 2) else ((tellS s, o), 0)) := Lib.hid (by rw [← HTE.out, hf]; rfl)
          clear ho hf HO HOF hfit
          go_wp2_with fail
          cases hfo : fitsB o
          · have HR : Hid (tr = (([], 0), 2)) := Lib.hid (by rw [HTF.out, hfo]; rfl)
            refine (mfits_lo o _ _ HIC.out HOW.out hfo).mono ?_
            rintro en w6 ⟨rfl, hb⟩
            have HB6 := Lib.hid (belows_then HBA.out HBA.out.size hb)
            clear hb hfo
            go_wp2_with fail
            go_ret3
            rw [HR.out]
            exact ⟨_, rfl, OwnL.nil _ _, belows_then HBA2.out HBA2.out.size HB6.out⟩
          · have HR : Hid (tr = ((tellS s, o), 0)) := Lib.hid (by rw [HTF.out, hfo]; rfl)
            refine (mfits_lo o _ _ HIC.out HOW.out hfo).mono ?_
            rintro en w6 ⟨rfl, hb⟩
            have HB6 := Lib.hid (belows_then HBA.out HBA.out.size hb)
            have HO6 := Lib.hid ((HOA.out.below hb).mono HBA2.out.size)
            clear hb hfo
            go_wp2_with fail
            go_ret3
            rw [HR.out]
            exact ⟨vo, rfl, HO6.out, belows_then HBA2.out HBA2.out.size HB6.out⟩
end Go.Proofs.YtgggpaacagbmcaaGreat
