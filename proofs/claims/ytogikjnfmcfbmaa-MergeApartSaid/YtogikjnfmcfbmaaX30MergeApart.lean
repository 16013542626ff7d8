/- A book of journals by their numbers (Raw). -/
import Derived.Test.YtogikjnfmcfbmaaX29MergeApart
import Derived.Test.YtogikjnfmcfbmaaX27MergeApart
set_option linter.unusedVariables false
set_option linter.unusedSimpArgs false
namespace Go.Proofs.Ytogikjnfmcfbmaa
open Go.RowKit Go.Maps Go.Sort Go.Shelf

structure JV where
  j : Jn
  a : Option Addr
  c : Nat
abbrev evJ (x : JV) : Value := jnv x.j x.a x.c
set_option maxRecDepth 100000 in
set_option maxHeartbeats 2000000 in
theorem keys1IJ (n : Nat) (hn : 1 ≤ n) (l Bm b : Nat) (lst : List (Int × JV)) (J : List Int → World → Prop)
    (hY : ∀ pre x W, J pre W → pre.length < lst.length → YieldAt Fence.wide (n - 1) Try.prog l #[encZ x] W fun e W' => e = .returned (.bool true) ∧ J (pre ++ [x]) W' ∧ KeepsWalks W W')
    (W : World) (hJ : AbidesFrom W.heap.size J) (hm : W.cell? ⟨Bm, 0, none⟩ = some (.map (some b))) (hM : MapIs mInt evJ W b lst) (h0 : J [] W) :
    CallsIn Fence.wide n Try.prog 71 #[.func (.yield l) #[] #[], .pointer (some ⟨Bm, 0, none⟩)] W fun e W' => (∃ v, e = .returned v) ∧ ∃ ss : List Int, ss.Perm (lst.map (·.1)) ∧ J ss W' := by
  refine callsIn_of_wp Try.func71 rfl trivial ?_ rfl
  simp only [Try.ntmps71, List.size_toArray, List.length_cons, List.length_nil, Nat.reduceAdd, Nat.reduceSub, Array.replicate_succ, Array.replicate_zero, List.push_toArray, List.append_toArray, List.nil_append, List.cons_append]
  gi_wp2_with (first
    | (gi_at_range; refine wpIn_range rfl _ 67 rfl 31 Try.underlying67 b lst rfl hM ?_; intro w0 hrg0 hg0 hs0)
    | gi_in)
  go_frame
  gi_loopw [3] (fun _ wr => ∃ (ss : List Int), Rng mInt evJ wr b W.heap.size lst ss ∧ J ss wr)
    (fun _ wr => wr.rangeLeft b W.heap.size)
  case atStart =>
    exact ⟨[], hrg0, hJ [] W w0 none h0 hg0 (fun r e => by cases e)⟩
  case round =>
    obtain ⟨ss, hrg, hJs⟩ := hrel
    gi_wp2_with (first
      | (gi_at_next; refine wpIn_next rfl _ rfl b W.heap.size lst ss rfl hrg ?_ ?_)
      | gi_in)
    · intro hp
      gi_wp2
      go_end0
      exact ⟨⟨_, rfl⟩, ss, hp, hJs⟩
    · intro kx v w2 hkv hrg2 hlt hg2 hs2 hen
      have hek : mInt.ek kx = .int .i64 kx := rfl
      rw [hek] at hen ⊢
      have hlen := hrg2.len
      have hJ2 : J ss w2 := hJ ss wr w2 (some W.heap.size) hJs hg2 (fun r e => by cases e; exact ⟨Nat.le_refl _, hrg.iter_walk⟩)
      obtain ⟨fn, tmps, assign, body, hy, hR⟩ := hY ss kx _ hJ2 (by simp at hlen; omega)
      clear hs2
      gi_wp2
      refine hR.mono ?_
      rintro e W3 ⟨rfl, hJ4, hk4⟩
      have hrg4 := hrg2.of_walks hk4
      gi_wp2
      go_roundw
      case rel => exact ⟨ss ++ [kx], hrg4, hJ4⟩
      case measure =>
        have e1 := rangeLeft_walks hk4 hrg2
        rw [e1]
        exact hlt
theorem keysfIJ (mb : Option Nat) (w : World) :
    Calls Try.prog 54 #[.map mb] w fun e w' => e = .returned (.func (.func 71) #[] #[.pointer (some ⟨w.heap.size, 0, none⟩)]) ∧ w' = w.alloc (.cells #[.map mb] 67) := by
  go_enter Try.func54, Try.ntmps54
  go_wp2_with fail
  go_ret
  exact ⟨rfl, rfl⟩
theorem givesIJ (n : Nat) (hn : 1 ≤ n) (Bm b : Nat) (lst : List (Int × JV)) (w : World) (hBm : Bm < w.heap.size) (hm : w.cell? ⟨Bm, 0, none⟩ = some (.map (some b))) (hM : MapIs mInt evJ w b lst) :
    SeqGives Fence.wide n Try.prog 71 #[.pointer (some ⟨Bm, 0, none⟩)] encZ (fun ss => ss.Perm (lst.map (·.1))) lst.length w := fun l J W hW hJ hY h0 =>
  keys1IJ n hn l Bm b lst J hY W hJ ((hW.cell (p := ⟨Bm, 0, none⟩) hBm).trans hm) (hM.keep (hW.block b hM.lt)) h0
theorem sortedIJ (Bm b : Nat) (lst : List (Int × JV)) (w : World) (hBm : Bm < w.heap.size) (hm : w.cell? ⟨Bm, 0, none⟩ = some (.map (some b))) (hM : MapIs mInt evJ w b lst) (hl : lst.length ≤ 1000000) :
    Calls Try.prog 53 #[.func (.func 71) #[] #[.pointer (some ⟨Bm, 0, none⟩)]] w (SrtPost w (lst.map (·.1))) :=
  sorted_is 71 #[.pointer (some ⟨Bm, 0, none⟩)] (enters_of Try.func71 (by kernel_rfl) rfl) (lst.map (·.1)) (fun k hk => by obtain ⟨x, hx, rfl⟩ := List.mem_map.1 hk; exact hM.oks x hx) (by rw [List.length_map]; exact hl) w (by rw [List.length_map]; exact givesIJ 2 (by omega) Bm b lst w hBm hm hM)

/-- block b is a map of journals by their numbers, their lines in blocks of F -/
structure JMap (w : World) (b : Nat) (cm : List (Int × JV)) (F : Nat → Prop) : Prop where
  map : MapIs mInt evJ w b cm
  jn : ∀ x ∈ cm, tJn.R w F (jcs x.2.j x.2.a x.2.c) x.2.j
theorem JMap.below {w w' : World} {b : Nat} {cm : List (Int × JV)} {F : Nat → Prop} (h : JMap w b cm F) (hb : Below w.heap.size w w') : JMap w' b cm F :=
  ⟨h.map.keep (hb.block b h.map.lt), fun x hx => tJn.keep (fun k hk _ => hb.block k hk) (h.jn x hx)⟩
/-- the journal of a number -/
def atJ (cm : List (Int × JV)) (k : Int) : Jn := ((look cm k).map (·.j)).getD jn0
theorem zeroJV (w : World) : (zeroValue 31).run Try.prog w = .ok (jnv jn0 none 0) w := by kernel_rfl
theorem JMap.looks {w : World} {b : Nat} {cm : List (Int × JV)} {F : Nat → Prop} (h : JMap w b cm F) {k : Int} (hk : I64 k) :
    ∃ a c, tJn.R w F (jcs (atJ cm k) a c) (atJ cm k) ∧ (∀ W : World, W.heap[b]? = w.heap[b]? → (Instr.lookup 67 (.map (some b)) (.int .i64 k) false).run Try.prog W = .ok (jnv (atJ cm k) a c) W) := by
  have hrun : ∀ W : World, W.heap[b]? = w.heap[b]? → (Instr.lookup 67 (.map (some b)) (.int .i64 k) false).run Try.prog W = .ok (((look cm k).map evJ).getD (jnv jn0 none 0)) W := fun W hW => by
    have := (h.map.keep (w' := W) hW).lookup Try.underlying67 (k := k) hk (zeroJV W)
    rwa [show mInt.ek k = .int .i64 k from rfl] at this
  unfold atJ
  cases hl : look cm k with
  | none =>
    rw [hl] at hrun
    exact ⟨none, 0, jn0_R w F, hrun⟩
  | some x =>
    rw [hl] at hrun
    refine ⟨x.a, x.c, ?_, hrun⟩
    unfold look at hl
    rw [Option.map_eq_some_iff] at hl
    obtain ⟨u, hu, rfl⟩ := hl
    exact h.jn u (List.mem_of_find?_eq_some hu)
def rawL (cm : List (Int × JV)) : List Jn := (srt (cm.map (·.1))).map (atJ cm)
theorem atJ_ne {cm : List (Int × JV)} (h : ∀ x ∈ cm, x.2.j.lines ≠ []) {k : Int} (hk : k ∈ cm.map (·.1)) : (atJ cm k).lines ≠ [] := by
  unfold atJ
  cases hl : look cm k with
  | none =>
    exfalso
    unfold look at hl
    rw [Option.map_eq_none_iff, List.find?_eq_none] at hl
    obtain ⟨x, hx, rfl⟩ := List.mem_map.1 hk
    exact hl x hx (by simp)
  | some x =>
    unfold look at hl
    rw [Option.map_eq_some_iff] at hl
    obtain ⟨u, hu, rfl⟩ := hl
    exact h u (List.mem_of_find?_eq_some hu)

theorem intF (w : World) (F G : Nat → Prop) (c : List Value) (x : Int) (h : tInt.R w F c x) : tInt.R w G c x := h
def RawP (w : World) (l : List Jn) (e : Ending) (w' : World) : Prop :=
  ∃ g a cap, e = .returned (.pointer (some ⟨g, 0, none⟩)) ∧ BookAt w' g a cap l (fun k => w.heap.size ≤ k) ∧ Below w.heap.size w w'

set_option maxHeartbeats 8000000 in
set_option maxRecDepth 100000 in
theorem raw_any {w : World} {b : Nat} {cm : List (Int × JV)} {F : Nat → Prop} (h : JMap w b cm F) (hl : cm.length ≤ 1000) (hne : ∀ x ∈ cm, x.2.j.lines ≠ []) :
    Calls Try.prog 31 #[.map (some b)] w (RawP w (rawL cm)) := by
  have HJ := Lib.hid h
  have hbl := h.map.lt
  have HB0 := Lib.hid (((Below.refl w.heap.size w).alloc (Nat.le_refl _) (.cells #[.slice none 0 0] 84)).alloc (by simp) (.cells #[.map (some b)] 67))
  have HZ0 := Lib.hid (blk_alloc (blk_new w (.cells #[.slice none 0 0] 84)) (.cells #[.map (some b)] 67))
  have HKW : Hid (∀ k ∈ srt (cm.map (·.1)), I64 k ∧ (atJ cm k).lines ≠ []) := Lib.hid (fun k hk => by
    have hk' := srt_mem.1 hk
    obtain ⟨x, hx, rfl⟩ := List.mem_map.1 hk'
    exact ⟨h.map.oks x hx, atJ_ne hne hk'⟩)
  have hsz0 : (w.alloc (.cells #[.slice none 0 0] 84)).heap.size = w.heap.size + 1 := by simp
  have HC := Lib.hid (sortedIJ (w.heap.size + 1) b cm ((w.alloc (.cells #[.slice none 0 0] 84)).alloc (.cells #[.map (some b)] 67)) (by simp) (by rw [← hsz0, blk_cells (blk_new (w.alloc (.cells #[.slice none 0 0] 84)) (.cells #[.map (some b)] 67)) 0]; rfl) (h.map.keep (HB0.out.block b hbl)) (by omega))
  have hsl : (srt (cm.map (·.1))).length ≤ 1000 := by rw [srt_len, List.length_map]; exact hl
  obtain ⟨i0, hi, hz0, hz1, hz2⟩ := info_parts infoJ
  clear h hne
  unfold rawL
  obtain ⟨ks, hks⟩ : ∃ ks, srt (cm.map (·.1)) = ks := ⟨_, rfl⟩
  rw [hks] at HKW hsl ⊢
  have HKE := Lib.hid hks
  clear hks
  go_enter Try.func31, Try.ntmps31
  go_wp2_with fail
  refine (keysfIJ (some b) _).mono ?_
  rintro en w1 ⟨rfl, rfl⟩
  go_wp2_with fail
  refine HC.out.mono ?_
  rintro en w2 ⟨v, rfl, ho, hb⟩
  rw [HKE.out] at ho
  have HB2 := Lib.hid (belows_then HB0.out (by simp; omega) hb)
  have HZ2 := Lib.hid (blk_below HZ0.out hb)
  obtain ⟨ka, kc, rfl, _, _, hks⟩ := ho.slice_free intF
  have HKS : Hid (Sl tInt w2 (fun k => w.heap.size + 2 ≤ k) ka ks) := Lib.hid (Sl.mono (fun k _ hf => by have := hf.1; simpa using this) hks)
  clear ho hb hks HC HB0 HZ0
  go_wp2_with fail
  go_loopw [12] (fun vi wr => ∃ (n : Nat) (vx : Value), n ≤ ks.length ∧ vi = .int .i64 n ∧ wr.heap[w.heap.size]? = some (.cells #[vx] 84 (0, 0)) ∧ OwnF tJn wr w2.heap.size (fun k => w2.heap.size ≤ k) vx ((ks.take n).map (atJ cm)) ∧ But (· = w.heap.size) w2 wr) (fun vi _ => ks.length - (intOf vi).toNat)
  case atStart => exact ⟨0, _, Nat.zero_le _, rfl, HZ2.out, OwnF.nil _ _ _, But.refl _ _⟩
  case round =>
    obtain ⟨n, vx, hn, rfl, hz, ho, hbu⟩ := hrel
    have HZ := Lib.hid hz
    have HO := Lib.hid ho
    have HBU := Lib.hid hbu
    have hb2s := HB2.out.size
    have hwl := blk_lt HZ2.out
    have HBW := Lib.hid (But.toBelow HB2.out hbu (fun k e => by omega) hb2s)
    clear hz ho hbu
    by_cases hlt : n < ks.length
    · obtain ⟨ad, rfl, hadl, hc0⟩ := int_at (Sl.keep (fun k hk hf => HBU.out.block k hk (by omega)) HKS.out) n hlt
      obtain ⟨hk1, hk2⟩ := HKW.out ks[n] (List.getElem_mem hlt)
      have HTK : Hid ((ks.take (n + 1)).map (atJ cm) = (ks.take n).map (atJ cm) ++ [atJ cm ks[n]]) := Lib.hid (by rw [List.take_succ_eq_append_getElem hlt, List.map_append]; rfl)
      have hnum : ((ks.take n).map (atJ cm)).length ≤ 1000 := by rw [List.length_map, List.length_take]; omega
      generalize ks[n] = k at *
      obtain ⟨la, lc, hr, hlk⟩ := (HJ.out.below HBW.out).looks hk1
      have hl1 := hlk wr.drew rfl
      generalize atJ cm k = x at *
      have HR := Lib.hid hr
      have HLN := Lib.hid hk2
      have hz := blk_cells HZ.out
      have hzf := blk_frz HZ.out
      have hzl := blk_lt HZ.out
      have hbs := HBU.out.size
      have h63 : ((ks.take n).map (atJ cm)).length + [x].length ≤ maxLen := by simp only [List.length_cons, List.length_nil]; unfold maxLen; omega
      have hby : (((ks.take n).map (atJ cm)).length + [x].length) * 72 ≤ 140737488355328 := by simp only [List.length_cons, List.length_nil]; omega
      clear hr hlk hk2 hk1
      go_wp2_with fail
      have hlen5 : (List.map (atJ cm) (List.take n ks) ++ [x]).length = n + 1 := by simp; omega
      go_region_law (first
        | (refine step_call rfl 44 #[jnv x la lc] (by simp [execOp, resolve, invoke, Act.eval, Act.put, go_sem]) ?_; refine (ecopy_any x la lc wr.drew (tJn.keep (w := wr) (w' := wr.drew) (fun k hk _ => rfl) HR.out) HLN.out).mono ?_; rintro en w3 ⟨a3, c3, rfl, hb, hr3⟩; refine ⟨_, rfl, ?_⟩; have HB3 : Hid (Below wr.heap.size wr w3) := Lib.hid ((Below.drew (Below.refl _ wr)).trans hb); have HZ3 := Lib.hid (blk_below HZ.out HB3.out); have hz3 := blk_cells HZ3.out; have hzf3 := blk_frz HZ3.out; have hzl3 := blk_lt HZ3.out; have hs3 := HB3.out.size; have HO3 := Lib.hid ((HO.out.below HB3.out).alloc (.cells #[.int .i64 x.id, .int .i64 x.en, .int .i64 x.pe, .string x.ref, .slice a3 x.lines.length c3, .bool x.void] 31)); have HX3 := Lib.hid (app_cells (F := fun k => w2.heap.size ≤ k) (base := 0) (O := []) (vo := vx) hr3 (fun k e => (HO.out.lt k e).2) (fun k hk => Nat.le_trans hbs hk) _ rfl); clear hb hr3)
        | (refine step_appF (T := tJn) rfl (.tmp 20) (.tmp 25) 22 rfl i0 (.agg #[.int .i64 0, .int .i64 0, .int .i64 0, .string ⟨#[]⟩, .slice none 0 0, .bool false]) 72 Try.underlying22 hi hz0 hz1 hz2 rfl (by decide) jn_one w2.heap.size (fun k => w2.heap.size ≤ k) vx ((ks.take n).map (atJ cm)) (by simp [Act.eval, Act.put]) HO3.out ⟨w3.heap.size, 0, none⟩ 1 [x] (by simp [Act.eval, Act.put]) HX3.out h63 hby (by simp; omega) ?_; intro v5 w5 hown hg hat; have HO5 := Lib.hid hown; have HZ5 := Lib.hid ((hg.block w.heap.size (by simp; omega) (Ne.symm (HO3.out.ne (blk_alloc HZ3.out _) (by decide)))).trans (blk_alloc HZ3.out _)); have HBU5 := Lib.hid (((HBU.out.call HB3.out).alloc (.cells #[.int .i64 x.id, .int .i64 x.en, .int .i64 x.pe, .string x.ref, .slice a3 x.lines.length c3, .bool x.void] 31)).grown hg (fun k e => .inr (HO3.out.lt k e).1)); obtain ⟨oa5, oc5, rfl, _, _, _⟩ := hown.slice; have hz5 := blk_cells HZ5.out; have hzf5 := blk_frz HZ5.out; have hzl5 := blk_lt HZ5.out; clear hown hg hat))
      all_goals
        go_wp2_with fail
        go_roundw
        case rel => exact ⟨n + 1, _, by omega, by go_num, by simpa using blk_set HZ5.out 0 _, by rw [HTK.out]; have h9 := HO5.out.far (p := ⟨w.heap.size, 0, none⟩) (fun k hk => by show k ≠ w.heap.size; omega) (HO5.out.ne HZ5.out (by decide)) (.slice oa5 (n + 1) oc5); rwa [hlen5] at h9, HBU5.out.setCell (.inl rfl) _⟩
        case measure => simp [intOf]; omega
    · have HL : Hid ((ks.take n).map (atJ cm) = ks.map (atJ cm)) := Lib.hid (by rw [take_all hn hlt])
      have hown := HO.out
      rw [HL.out] at hown
      obtain ⟨oa, oc, rfl, hle, hcm, hsl2⟩ := hown.slice
      have hlo := hown.lt
      have HAT : Hid (BookAt wr w.heap.size oa oc (ks.map (atJ cm)) (fun k => w.heap.size ≤ k)) := Lib.hid ⟨HZ.out, Sl.mono (fun k _ hf => by
        rcases hf with hf | hf
        · have := hf.1; omega
        · have := (hlo k hf).1; omega) hsl2, hle, hcm⟩
      clear hown hsl2 hle hcm hlo
      go_wp2_with fail
      go_ret
      exact ⟨w.heap.size, oa, oc, rfl, HAT.out, HBW.out⟩
end Go.Proofs.Ytogikjnfmcfbmaa
