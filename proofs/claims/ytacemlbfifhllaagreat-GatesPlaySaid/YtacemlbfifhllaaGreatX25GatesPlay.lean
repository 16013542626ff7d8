/- variorumbook: marks of trios. Printed by mktrios.py. -/
import Derived.Test.YtacemlbfifhllaaGreatX23GatesPlay
import Derived.Test.YtacemlbfifhllaaGreatX24GatesPlay
import Derived.Deep.RegionHeld3
set_option linter.unusedVariables false
set_option linter.unusedSimpArgs false
namespace Go.Proofs.YtacemlbfifhllaaGreat
open Go.RowKit Go.Maps Go.Deep

/-- the marksT of list i, from one place on -/
def marksT (i f n : Nat) : List (Int × Int × Int) := (List.range n).map (fun (k : Nat) => ((-1000 * (i : Int) - ((f : Int) + (k : Int)) - 1 : Int), (0 : Int), (0 : Int)))
theorem marksT_len (i f n : Nat) : (marksT i f n).length = n := by unfold marksT; rw [List.length_map, List.length_range]
theorem marksT_succ (i f n : Nat) : marksT i f (n + 1) = marksT i f n ++ [(-1000 * (i : Int) - ((f : Int) + (n : Int)) - 1, 0, 0)] := by
  unfold marksT
  rw [List.range_succ, List.map_append]
  rfl
theorem marksT_app (i n : Nat) : ∀ m, marksT i 0 n ++ marksT i n m = marksT i 0 (n + m)
  | 0 => by simp [marksT]
  | m + 1 => by
    rw [marksT_succ, ← List.append_assoc, marksT_app i n m, ← Nat.add_assoc, marksT_succ]
    congr 4
    omega

set_option maxHeartbeats 8000000 in
set_option maxRecDepth 100000 in
theorem markTrio_any (i f n : Nat) (hi : i ≤ 1000) (hf : f ≤ 200000) (hn : n ≤ 200000) (w : World) :
    Calls Tryz.prog 88 #[.int .i64 (i : Int), .int .i64 (f : Int), .int .i64 (n : Int)] w fun e w' => ∃ v, e = .returned v ∧ OwnL tTrio w' w.heap.size v (marksT i f n) ∧ Below w.heap.size w w' := by
  obtain ⟨i0, hi0, hz0, hz1, hz2⟩ := info_parts infoTri
  have w1 : IntKind.i64.wrap (-1000 * (i : Int)) = -1000 * (i : Int) := wrap_is (by omega) (by omega)
  have w0 : IntKind.i64.wrap ((f : Int) + (n : Int)) = (f : Int) + (n : Int) := wrap_is (by omega) (by omega)
  go_enter Tryz.func88, Tryz.ntmps88
  go_wp2_with fail
  go_loopw [7, 8] (fun vo vi wr => ∃ (m : Nat) (k : Int) (vx : Value), vx = vo ∧ m ≤ n ∧ vi = .int .i64 k ∧ k = (f : Int) + (m : Int) ∧ OwnL tTrio wr w.heap.size vx (marksT i f m) ∧ Below w.heap.size w wr) (fun _ vi _ => f + n - (Go.RowKit.intOf vi).toNat)
  case atStart => exact ⟨0, _, _, rfl, Nat.zero_le _, rfl, by simp, OwnL.nil _ _, Below.refl _ _⟩
  case round =>
    obtain ⟨m, k, vo, rfl, hm, rfl, hk, ho, hb⟩ := hrel
    have HO := Lib.hid ho
    have HB := Lib.hid hb
    have HK := Lib.hid hk
    clear ho hb
    by_cases hlt : m < n
    · have hlt' : k < (f : Int) + (n : Int) := by omega
      have w2 : IntKind.i64.wrap (-1000 * (i : Int) - k) = -1000 * (i : Int) - k := wrap_is (by omega) (by omega)
      have w3 : IntKind.i64.wrap (-1000 * (i : Int) - k - 1) = -1000 * (i : Int) - k - 1 := wrap_is (by omega) (by omega)
      have w4 : IntKind.i64.wrap (k + 1) = k + 1 := wrap_is (by omega) (by omega)
      have HX : Hid (I64 (-1000 * (i : Int) - k - 1)) := Lib.hid (i64_ofB (by omega) (by omega))
      have HMS : Hid (marksT i f m ++ [(-1000 * (i : Int) - k - 1, 0, 0)] = marksT i f (m + 1)) := Lib.hid (by rw [marksT_succ, hk])
      have HOA := Lib.hid (HO.out.alloc (.cells #[.int .i64 (-1000 * (i : Int) - k - 1), .int .i64 0, .int .i64 0] 54))
      have HBA := Lib.hid (HB.out.alloc HB.out.size (.cells #[.int .i64 (-1000 * (i : Int) - k - 1), .int .i64 0, .int .i64 0] 54))
      have HSL : Hid (Sl tTrio (wr.alloc (.cells #[.int .i64 (-1000 * (i : Int) - k - 1), .int .i64 0, .int .i64 0] 54)) (fun kk => some kk ≠ vo.ownBlock ∧ kk < (wr.alloc (.cells #[.int .i64 (-1000 * (i : Int) - k - 1), .int .i64 0, .int .i64 0] 54)).heap.size) (some ⟨wr.heap.size, 0, none⟩) [(-1000 * (i : Int) - k - 1, 0, 0)]) :=
        Lib.hid (sl_one3 (x := (-1000 * (i : Int) - k - 1, 0, 0)) (blk_new wr _) ⟨fun e => by have := (HO.out.lt _ e.symm).2; omega, by simp⟩ (trio_mk (-1000 * (i : Int) - k - 1, 0, 0) HX.out (show I64 0 by decide) (show I64 0 by decide)))
      have hml := marksT_len i f m
      have h63 : (marksT i f m).length + [((-1000 * (i : Int) - k - 1, 0, 0) : Int × Int × Int)].length ≤ maxLen := by simp only [List.length_cons, List.length_nil]; unfold maxLen; omega
      have hby : ((marksT i f m).length + [((-1000 * (i : Int) - k - 1, 0, 0) : Int × Int × Int)].length) * 24 ≤ 140737488355328 := by simp only [List.length_cons, List.length_nil]; omega
      clear hml hk
      go_wp2_with (at_builtin; refine wp_app (T := tTrio) rfl _ _ 51 rfl i0 (.agg #[.int .i64 0, .int .i64 0, .int .i64 0]) 24 Tryz.underlying51 hi0 hz0 hz1 hz2 rfl (by decide) trio_one w.heap.size vo (marksT i f m) rfl HOA.out ⟨wr.heap.size, 0, none⟩ 1 [(-1000 * (i : Int) - k - 1, 0, 0)] rfl HSL.out h63 hby HBA.out.size ?_; intro v2 w2 hown hg hnil hat; have HB2 := Lib.hid (Below.grown HBA.out hg HBA.out.size (fun k e => (HOA.out.lt k e).1)); have HO2 := Lib.hid hown; clear hown hg hnil hat)
      go_roundw
      case rel => exact ⟨m + 1, _, _, rfl, by omega, rfl, by have := HK.out; push_cast; omega, by rw [← HMS.out]; exact HO2.out, HB2.out⟩
      case measure => have := HK.out; simp [Go.RowKit.intOf]; omega
    · obtain rfl : m = n := by omega
      have hnl : ¬ k < (f : Int) + (m : Int) := by omega
      go_wp2_with fail
      go_ret
      exact ⟨_, rfl, HO.out, HB.out⟩
end Go.Proofs.YtacemlbfifhllaaGreat


/- variorumbook: markedBalances, stillBalances. -/
set_option linter.unusedVariables false
set_option linter.unusedSimpArgs false
namespace Go.Proofs.YtacemlbfifhllaaGreat
open Go.RowKit Go.Maps Go.Deep

def tBalV : Ty Tryz.prog 106 Value := Ty.val Tryz.underlying106 (by kernel_rfl)
theorem balV_Free : Free tBalV := fun _ _ _ _ _ _ h => h
theorem val_at {w : World} {F : Nat → Prop} {a : Option Addr} {l : List Value} (h : Sl tBalV w F a l) (i : Nat) (hi : i < l.length) :
    ∃ ad, a = some ad ∧ ad.block < w.heap.size ∧ w.cell? (ad.add i) = some l[i] := by
  obtain ⟨ad, ces, rfl, _, hlt, hc, hr⟩ := h i l[i] (List.getElem?_eq_getElem hi)
  obtain ⟨rfl, _⟩ := hr
  have hn : tBalV.n = 1 := rfl
  rw [hn] at hc
  refine ⟨ad, rfl, hlt, ?_⟩
  have := hc 0 _ rfl
  rw [Nat.mul_one] at this
  rwa [Go.Addr.add_add, Nat.add_zero] at this

/-- the slices vs, read: what they hold -/
def Reads (w : World) (vs : List Value) (L : List (List (Int × Int))) : Prop :=
  vs.length = L.length ∧ ∀ (i : Nat) (v : Value) (l : List (Int × Int)), vs[i]? = some v → L[i]? = some l → ∃ a c, v = .slice a l.length c ∧ Sl tBal w (fun _ => True) a l
theorem Reads.keep {w w' : World} {vs : List Value} {L : List (List (Int × Int))} (h : Reads w vs L) (hb : Below w.heap.size w w') : Reads w' vs L :=
  ⟨h.1, fun i v l hv hl => by
    obtain ⟨a, c, e, hs⟩ := h.2 i v l hv hl
    exact ⟨a, c, e, hs.keep (fun k hk _ => hb.block k hk)⟩⟩
theorem Lots.reads {w : World} {base : Nat} {vs : List Value} {L : List (List (Int × Int))} (h : Lots tBal w base vs L) : Reads w vs L :=
  ⟨h.len, fun i v l hv hl => by
    obtain ⟨a, c, e, _, _, hs⟩ := (h.own i v l hv hl).slice
    exact ⟨a, c, e, hs⟩⟩

set_option maxHeartbeats 8000000 in
set_option maxRecDepth 100000 in
theorem markedBal_any {w : World} {F : Nat → Prop} {a : Option Addr} {cap : Nat} {vs : List Value} {L : List (List (Int × Int))} (hs : Sl tBalV w F a vs) (hr : Reads w vs L) (hn : vs.length ≤ 1000)
    (hL : ∀ (i : Nat) (l : List (Int × Int)), L[i]? = some l → l = marks i 0 l.length ∧ l.length ≤ 200000) :
    Calls Tryz.prog 58 #[.slice a vs.length cap] w fun e w' => e = .returned (.bool true) ∧ Below w.heap.size w w' := by
  have HS := Lib.hid hs
  have HR := Lib.hid hr
  have HL := Lib.hid hL
  clear hs hr hL
  go_enter Tryz.func58, Tryz.ntmps58
  go_wp2_with fail
  go_loopw [3] (fun vi wr => ∃ n : Nat, n ≤ vs.length ∧ vi = .int .i64 n ∧ Below w.heap.size w wr) (fun vi _ => vs.length - (Go.RowKit.intOf vi).toNat)
  case atStart => exact ⟨0, Nat.zero_le _, rfl, Below.refl _ _⟩
  case round =>
    obtain ⟨n, hnn, rfl, hb⟩ := hrel
    have HB := Lib.hid hb
    clear hb
    by_cases hlt : n < vs.length
    · have hlt2 : n < L.length := by have := HR.out.1; omega
      obtain ⟨l, hl⟩ : ∃ l, L[n]? = some l := ⟨_, List.getElem?_eq_getElem hlt2⟩
      obtain ⟨hmk, hll⟩ := HL.out n l hl
      obtain ⟨la, lc, hv, hsl⟩ := (HR.out.keep HB.out).2 n vs[n] l (List.getElem?_eq_getElem hlt) hl
      obtain ⟨ad, rfl, hadl, hc0⟩ := val_at (Sl.keep (fun k hk _ => HB.out.block k hk) HS.out) n hlt
      rw [hv] at hc0
      have HMK : Hid (Calls Tryz.prog 85 #[.int .i64 (n : Int), .int .i64 0, .int .i64 (l.length : Int)] wr.drew fun e w' => ∃ v, e = .returned v ∧ OwnL tBal w' wr.drew.heap.size v l ∧ Below wr.drew.heap.size wr.drew w') := Lib.hid (by
        have := markBal_any n 0 l.length (by omega) (by omega) hll wr.drew
        rwa [← hmk] at this)
      have hlm : l.length ≤ maxLen := by unfold maxLen; omega
      have hlm' : l.length ≤ 9223372036854775807 := by omega
      have HSB : Hid (∀ W, Below wr.heap.size wr W → ∀ (b : Option Addr) (cb : Nat), Sl tBal W (fun _ => True) b l → Calls Tryz.prog 73 #[.slice la l.length lc, .slice b l.length cb] W fun e w' => e = .returned (.bool true) ∧ Below W.heap.size W w') := Lib.hid (fun W hW b cb hsb =>
        sameBal_is l l la b lc cb W (Sl.keep (fun k hk _ => hW.block k hk) hsl) hsb hlm hlm rfl)
      have HCE : Hid (∀ W, Below wr.heap.size wr W → W.cell? (ad.add n) = some (.slice la l.length lc)) := Lib.hid (fun W hW => (hW.cell (p := ad.add n) (by rw [add_block]; exact hadl)).trans hc0)
      have HBD : Hid (Below wr.heap.size wr wr.drew) := Lib.hid (Below.drew (Below.refl _ _))
      clear hl hmk hll hv hsl hlm hadl
      go_wp2_with fail
      go_region_held3 (fun w' => w'.cell? (ad.add n) = some (.slice la l.length lc)) (first | with_reducible exact HCE.out _ HB3.out | with_reducible exact HCE.out _ HB2.out | with_reducible exact HCE.out _ HBD.out) (first | (go_at_call 85; refine HMK.out.mono ?_; rintro en w2 ⟨v2, rfl, ho, hb⟩; obtain ⟨ta, tc, rfl, _, _, hts⟩ := ho.slice; have HTS := Lib.hid hts; have HB2 : Hid (Below wr.heap.size wr w2) := Lib.hid (belows_then HBD.out HBD.out.size hb); clear ho hb hts) | (go_at_call 73; refine (HSB.out _ HB2.out ta tc HTS.out).mono ?_; rintro en w4 ⟨rfl, hb⟩; have HB3 : Hid (Below wr.heap.size wr w4) := Lib.hid (belows_then HB2.out HB2.out.size hb); clear hb))
      have HBN := Lib.hid (HB.out.trans (HB3.out.mono HB.out.size))
      go_wp2_with fail
      go_roundw
      case rel => exact ⟨n + 1, by omega, by go_num, HBN.out⟩
      case measure => simp [Go.RowKit.intOf]; omega
    · go_wp2_with fail
      go_ret
      exact ⟨rfl, HB.out⟩
end Go.Proofs.YtacemlbfifhllaaGreat
