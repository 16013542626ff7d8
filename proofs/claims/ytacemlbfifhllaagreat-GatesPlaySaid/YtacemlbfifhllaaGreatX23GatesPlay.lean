/- variorumbook: trios as balances are: made, read, copied, compared. -/
import Derived.Test.YtacemlbfifhllaaGreatX19GatesPlay
import Derived.Test.YtacemlbfifhllaaGreatX18GatesPlay
import Derived.Test.YtacemlbfifhllaaGreatX22GatesPlay
set_option linter.unusedVariables false
set_option linter.unusedSimpArgs false
namespace Go.Proofs.YtacemlbfifhllaaGreat
open Go.RowKit Go.Maps Go.Deep

def triV (x : Int × Int × Int) : List Value := [.int .i64 x.1, .int .i64 x.2.1, .int .i64 x.2.2]
set_option maxRecDepth 100000 in
theorem tri_of {H : Type} {enc : TypeId × Value → H} {w : World} {fuel : Nat} {cs : List Value} {d : DataW H} {ps : List MemPlace} (h1 : DataW.trod enc Tryz.prog w 0 (fun _ => true) true fuel 54 cs = some (d, ps)) :
    ∃ x : Int × Int × Int, cs = triV x ∧ I64 x.1 ∧ I64 x.2.1 ∧ I64 x.2.2 := by
  obtain ⟨xs, m, _, _, hl, hxl, hel⟩ := DataW.trod_array Tryz.underlying54 h1
  have hc1 : Tryz.prog.cellsOf 3 = 1 := by kernel_rfl
  have hc3 : Tryz.prog.cellsOf 54 = 3 := by kernel_rfl
  rw [hc3] at hl
  obtain ⟨c0, c1, c2, rfl⟩ : ∃ c0 c1 c2, cs = [c0, c1, c2] := by
    match cs, hl with
    | [a, b, c], _ => exact ⟨a, b, c, rfl⟩
  obtain ⟨y0, hy0⟩ : ∃ y, xs[0]? = some y := ⟨_, List.getElem?_eq_getElem (by omega)⟩
  obtain ⟨y1, hy1⟩ : ∃ y, xs[1]? = some y := ⟨_, List.getElem?_eq_getElem (by omega)⟩
  obtain ⟨y2, hy2⟩ : ∃ y, xs[2]? = some y := ⟨_, List.getElem?_eq_getElem (by omega)⟩
  have h0 := hel 0 (by decide)
  have h1 := hel 1 (by decide)
  have h2 := hel 2 (by decide)
  rw [hc1, hy0] at h0
  rw [hc1, hy1] at h1
  rw [hc1, hy2] at h2
  obtain ⟨x0, hx0, _, w0⟩ := DataW.trod_int Tryz.underlying3 h0
  obtain ⟨x1, hx1, _, w1⟩ := DataW.trod_int Tryz.underlying3 h1
  obtain ⟨x2, hx2, _, w2⟩ := DataW.trod_int Tryz.underlying3 h2
  simp at hx0 hx1 hx2
  subst hx0
  subst hx1
  subst hx2
  exact ⟨(x0, x1, x2), rfl, w0, w1, w2⟩
def tTrio : Ty Tryz.prog 54 (Int × Int × Int) where
  n := 3
  R := fun _ _ cs x => cs = triV x ∧ I64 x.1 ∧ I64 x.2.1 ∧ I64 x.2.2
  hn := by kernel_rfl
  len := by rintro _ _ _ _ ⟨rfl, _⟩; rfl
  keep := fun _ h => h
  mono := fun _ h => h
  of := fun h1 _ => tri_of h1
theorem trio_mk {w : World} {F : Nat → Prop} (x : Int × Int × Int) (h1 : I64 x.1) (h2 : I64 x.2.1) (h3 : I64 x.2.2) : tTrio.R w F (triV x) x := ⟨rfl, h1, h2, h3⟩
theorem trio_inv {w : World} {F : Nat → Prop} {cs : List Value} {x : Int × Int × Int} (h : tTrio.R w F cs x) : cs = triV x ∧ I64 x.1 ∧ I64 x.2.1 ∧ I64 x.2.2 := h
theorem trio_free (w : World) (F G : Nat → Prop) (c : List Value) (x : Int × Int × Int) (h : tTrio.R w F c x) : tTrio.R w G c x := h
theorem trio_Free : Free tTrio := fun w w' F G c x h => h
theorem trio_one (w : World) (F : Nat → Prop) (c : List Value) (x : Int × Int × Int) (h : tTrio.R w F c x) : ∀ u ∈ c, u.oneCell' = true := by
  obtain ⟨rfl, _⟩ := h
  simp [triV, Value.oneCell']
theorem infoTri : (Tryz.prog.info? 54).map (fun i => (i.zero, i.size, i.bytes)) = some (some (.agg #[.int .i64 0, .int .i64 0, .int .i64 0]), 3, 24) := by kernel_rfl
theorem trio_at {w : World} {F : Nat → Prop} {a : Option Addr} {l : List (Int × Int × Int)} (h : Sl tTrio w F a l) (i : Nat) (hi : i < l.length) :
    ∃ ad, a = some ad ∧ F ad.block ∧ ad.block < w.heap.size ∧ w.cell? (ad.add (i * 3)) = some (.int .i64 l[i].1) ∧ w.cell? ⟨(ad.add (i * 3)).block, (ad.add (i * 3)).off + 1, none⟩ = some (.int .i64 l[i].2.1) ∧ w.cell? ⟨(ad.add (i * 3)).block, (ad.add (i * 3)).off + 2, none⟩ = some (.int .i64 l[i].2.2) ∧ I64 l[i].1 ∧ I64 l[i].2.1 ∧ I64 l[i].2.2 := by
  obtain ⟨ad, ces, rfl, hf, hlt, hc, rfl, h1, h2, h3⟩ := h i l[i] (List.getElem?_eq_getElem hi)
  rw [show tTrio.n = 3 from rfl] at hc
  refine ⟨ad, rfl, hf, hlt, ?_, ?_, ?_, h1, h2, h3⟩
  · have := hc 0 _ rfl
    simpa [Addr.add] using this
  · have := hc 1 _ rfl
    rw [Addr.add] at this
    simpa using this
  · have := hc 2 _ rfl
    rw [Addr.add] at this
    simpa using this
theorem sl_one3 {w : World} {F : Nat → Prop} {b : Nat} {x : Int × Int × Int} (hb : w.heap[b]? = some (.cells #[.int .i64 x.1, .int .i64 x.2.1, .int .i64 x.2.2] 54 (0, 0))) (hF : F b) (hr : tTrio.R w F (triV x) x) :
    Sl tTrio w F (some ⟨b, 0, none⟩) [x] := by
  intro i y hi
  cases i with
  | succ i => simp at hi
  | zero =>
    simp at hi
    subst hi
    refine ⟨_, triV x, rfl, hF, (Array.getElem?_eq_some_iff.1 hb).1, fun k u hu => ?_, hr⟩
    rw [Nat.zero_mul, Go.Addr.add_add, Nat.zero_add]
    have : (⟨b, 0, none⟩ : Addr).add k = ⟨b, k, none⟩ := by unfold Addr.add; split <;> simp_all
    rw [this, cell_of_row w b k _ 54 (0, 0) hb]
    simpa [triV] using hu
theorem eq_tri (x y z : Int) (w : World) : (Op.equalIn 10000 54 (.agg #[.int .i64 x, .int .i64 y, .int .i64 z]) (.agg #[.int .i64 x, .int .i64 y, .int .i64 z])).run Tryz.prog w = .ok true w := by
  obtain ⟨i0, hi, _⟩ := info_parts infoInt
  have hc : Tryz.prog.cellsOf 3 = 1 := by kernel_rfl
  rw [show (10000 : Nat) = 9999 + 1 from rfl, run_equalIn_array w 9999 _ _ Tryz.underlying54 hi, hc]
  simp only [List.range, List.range.loop, Op.eqItems]
  simp [go_sem]

set_option maxHeartbeats 4000000 in
set_option maxRecDepth 100000 in
theorem sameTri_one (l : List (Int × Int × Int)) (a b : Option Addr) (ca cb : Nat) (w : World) {F G : Nat → Prop} (hs : Sl tTrio w F a l) (ht : Sl tTrio w G b l) (hl : l.length ≤ maxLen) :
    Calls Tryz.prog 78 #[.slice a l.length ca, .slice b l.length cb] w fun e w' => e = .returned (.bool true) ∧ Below w.heap.size w w' := by
  have HS := Lib.hid hs
  have HT := Lib.hid ht
  have hl' : l.length ≤ 9223372036854775807 := by unfold maxLen at hl; omega
  clear hs ht hl
  go_enter Tryz.func78, Tryz.ntmps78
  go_wp2_with fail
  go_loopw [5] (fun vi wr => ∃ n : Nat, n ≤ l.length ∧ vi = .int .i64 n ∧ Below w.heap.size w wr) (fun vi _ => l.length - (Go.RowKit.intOf vi).toNat)
  case atStart => exact ⟨0, Nat.zero_le _, rfl, Below.refl _ _⟩
  case round =>
    obtain ⟨n, hn, rfl, hb⟩ := hrel
    have HB := Lib.hid hb
    clear hb
    by_cases hlt : n < l.length
    · obtain ⟨ad, rfl, _, hadl, hc0, hc1, hc2, _⟩ := trio_at (Sl.keep (fun k hk _ => HB.out.block k hk) HS.out) n hlt
      obtain ⟨bd, rfl, _, hbdl, hd0, hd1, hd2, _⟩ := trio_at (Sl.keep (fun k hk _ => HB.out.block k hk) HT.out) n hlt
      generalize l[n] = x at *
      obtain ⟨x1, x2, x3⟩ := x
      simp only at hc0 hc1 hc2 hd0 hd1 hd2
      have heq := fun W => eq_tri x1 x2 x3 W
      go_wp2_with fail
      go_quiet (fail)
      go_wp2_with fail
      go_roundw
      case rel => exact ⟨n + 1, by omega, by go_num, below_drewN HB.out _⟩
      case measure => simp [Go.RowKit.intOf]; omega
    · go_wp2_with fail
      go_ret
      exact ⟨rfl, HB.out⟩
theorem sameTri_is (l m : List (Int × Int × Int)) (a b : Option Addr) (ca cb : Nat) (w : World) {F G : Nat → Prop} (hs : Sl tTrio w F a l) (ht : Sl tTrio w G b m) (hl : l.length ≤ maxLen) (hm : m.length ≤ maxLen) (h : l = m) :
    Calls Tryz.prog 78 #[.slice a l.length ca, .slice b m.length cb] w fun e w' => e = .returned (.bool true) ∧ Below w.heap.size w w' := by
  subst h
  exact sameTri_one l a b ca cb w hs ht hl

set_option maxHeartbeats 2000000 in
set_option maxRecDepth 100000 in
theorem cpTrio_any {w : World} {base : Nat} {v : Value} {l : List (Int × Int × Int)} (h : OwnL tTrio w base v l) (hl : l.length ≤ 100000) :
    Calls Tryz.prog 24 #[v] w fun e w' => ∃ v', e = .returned v' ∧ OwnL tTrio w' w.heap.size v' l ∧ Below w.heap.size w w' := by
  obtain ⟨i0, hi, hz0, hz1, hz2⟩ := info_parts infoTri
  have hf := h.form
  obtain ⟨a, cap, rfl, _, _, hs⟩ := h.slice
  have HS : Hid (Sl tTrio w (fun k => some k ≠ (Value.slice none 0 0).ownBlock ∧ k < w.heap.size) a l) := Lib.hid (fun i x hx => by
    obtain ⟨ad, ces, ha, _, hlt, hc, hr⟩ := hs i x hx
    exact ⟨ad, ces, ha, ⟨by simp [Value.ownBlock], hlt⟩, hlt, hc, trio_free _ _ _ _ _ hr⟩)
  have h63 : ([] : List (Int × Int × Int)).length + l.length ≤ maxLen := by simp only [List.length_nil]; unfold maxLen; omega
  have hby : (([] : List (Int × Int × Int)).length + l.length) * 24 ≤ 140737488355328 := by simp only [List.length_nil]; omega
  clear h hs
  rcases hf with ⟨hv, rfl⟩ | ⟨g, c, hv, _⟩
  · injection hv with h1 _ h3
    subst h1
    subst h3
    have HN := Lib.hid (World.ownsRow_nil w w.heap.size 54 3)
    go_enter Tryz.func24, Tryz.ntmps24
    go_wp2_with (at_builtin; refine wpList_append_own_none rfl _ _ 51 rfl w.heap.size 54 i0 3 Tryz.underlying51 hi (.slice none 0 0) 0 [] rfl HN.out rfl ?_)
    go_ret
    exact ⟨_, rfl, OwnL.nil _ _, Below.refl _ _⟩
  · injection hv with h1 _ h3
    subst h1
    subst h3
    go_enter Tryz.func24, Tryz.ntmps24
    go_wp2_with (at_builtin; refine wp_app (T := tTrio) rfl _ _ 51 rfl i0 (.agg #[.int .i64 0, .int .i64 0, .int .i64 0]) 24 Tryz.underlying51 hi hz0 hz1 hz2 rfl (by decide) trio_one w.heap.size (.slice none 0 0) [] rfl (OwnL.nil _ _) ⟨g, 0, none⟩ cap l rfl HS.out h63 hby (Nat.le_refl _) ?_; intro v' w' hown hg hnil hat; have HB := Lib.hid (Below.grown (Below.refl w.heap.size w) hg (Nat.le_refl _) (fun k e => by simp [Value.ownBlock] at e)); have HO := Lib.hid hown; clear hown hg hnil hat)
    go_ret
    exact ⟨v', rfl, by simpa using HO.out, HB.out⟩
end Go.Proofs.YtacemlbfifhllaaGreat
