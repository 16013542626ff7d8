/- variorumbook: marked trios. Printed by mktrios.py. -/
import Derived.Test.YtacemlbfifhllaaGreatX25GatesPlay
import Derived.Deep.RegionHeld3
set_option linter.unusedVariables false
set_option linter.unusedSimpArgs false
namespace Go.Proofs.YtacemlbfifhllaaGreat
open Go.RowKit Go.Maps Go.Deep

def tTrioV : Ty Tryz.prog 51 Value := Ty.val Tryz.underlying51 (by kernel_rfl)
theorem trioV_Free : Free tTrioV := fun _ _ _ _ _ _ h => h
theorem val_atT {w : World} {F : Nat → Prop} {a : Option Addr} {l : List Value} (h : Sl tTrioV w F a l) (i : Nat) (hi : i < l.length) :
    ∃ ad, a = some ad ∧ ad.block < w.heap.size ∧ w.cell? (ad.add i) = some l[i] := by
  obtain ⟨ad, ces, rfl, _, hlt, hc, hr⟩ := h i l[i] (List.getElem?_eq_getElem hi)
  obtain ⟨rfl, _⟩ := hr
  have hn : tTrioV.n = 1 := rfl
  rw [hn] at hc
  refine ⟨ad, rfl, hlt, ?_⟩
  have := hc 0 _ rfl
  rw [Nat.mul_one] at this
  rwa [Go.Addr.add_add, Nat.add_zero] at this

/-- the slices vs, read: what they hold -/
def ReadsT (w : World) (vs : List Value) (L : List (List (Int × Int × Int))) : Prop :=
  vs.length = L.length ∧ ∀ (i : Nat) (v : Value) (l : List (Int × Int × Int)), vs[i]? = some v → L[i]? = some l → ∃ a c, v = .slice a l.length c ∧ Sl tTrio w (fun _ => True) a l
theorem ReadsT.keep {w w' : World} {vs : List Value} {L : List (List (Int × Int × Int))} (h : ReadsT w vs L) (hb : Below w.heap.size w w') : ReadsT w' vs L :=
  ⟨h.1, fun i v l hv hl => by
    obtain ⟨a, c, e, hs⟩ := h.2 i v l hv hl
    exact ⟨a, c, e, hs.keep (fun k hk _ => hb.block k hk)⟩⟩
theorem Lots.readsT {w : World} {base : Nat} {vs : List Value} {L : List (List (Int × Int × Int))} (h : Lots tTrio w base vs L) : ReadsT w vs L :=
  ⟨h.len, fun i v l hv hl => by
    obtain ⟨a, c, e, _, _, hs⟩ := (h.own i v l hv hl).slice
    exact ⟨a, c, e, hs⟩⟩

set_option maxHeartbeats 8000000 in
set_option maxRecDepth 100000 in
theorem markedTrio_any {w : World} {F : Nat → Prop} {a : Option Addr} {cap : Nat} {vs : List Value} {L : List (List (Int × Int × Int))} (hs : Sl tTrioV w F a vs) (hr : ReadsT w vs L) (hn : vs.length ≤ 1000)
    (hL : ∀ (i : Nat) (l : List (Int × Int × Int)), L[i]? = some l → l = marksT i 0 l.length ∧ l.length ≤ 200000) :
    Calls Tryz.prog 63 #[.slice a vs.length cap] w fun e w' => e = .returned (.bool true) ∧ Below w.heap.size w w' := by
  have HS := Lib.hid hs
  have HR := Lib.hid hr
  have HL := Lib.hid hL
  clear hs hr hL
  go_enter Tryz.func63, Tryz.ntmps63
  go_wp2_with fail
  go_loopw [3] (fun vi wr => ∃ n : Nat, n ≤ vs.length ∧ vi = .int .i64 n ∧ Below w.heap.size w wr) (fun vi _ => vs.length - (Go.RowKit.intOf vi).toNat)
  case atStart => exact ⟨0, Nat.zero_le _, rfl, Below.refl _ _⟩
  case round =>
    obtain ⟨n, hnn, rfl, hb⟩ := hrel
    have HB := Lib.hid hb
    clear hb
    by_cases hlt : n < vs.length
    · have hlt2 : n < L.length := by have := HR.out.1; omega
      obtain ⟨l, hl⟩ : ∃ l, L[n]? = some l := ⟨_, List.getElem?_eq_getElem hlt2⟩
      obtain ⟨hmk, hll⟩ := HL.out n l hl
      obtain ⟨la, lc, hv, hsl⟩ := (HR.out.keep HB.out).2 n vs[n] l (List.getElem?_eq_getElem hlt) hl
      obtain ⟨ad, rfl, hadl, hc0⟩ := val_atT (Sl.keep (fun k hk _ => HB.out.block k hk) HS.out) n hlt
      rw [hv] at hc0
      have HMK : Hid (Calls Tryz.prog 88 #[.int .i64 (n : Int), .int .i64 0, .int .i64 (l.length : Int)] wr.drew fun e w' => ∃ v, e = .returned v ∧ OwnL tTrio w' wr.drew.heap.size v l ∧ Below wr.drew.heap.size wr.drew w') := Lib.hid (by
        have := markTrio_any n 0 l.length (by omega) (by omega) hll wr.drew
        rwa [← hmk] at this)
      have hlm : l.length ≤ maxLen := by unfold maxLen; omega
      have hlm' : l.length ≤ 9223372036854775807 := by omega
      have HSB : Hid (∀ W, Below wr.heap.size wr W → ∀ (b : Option Addr) (cb : Nat), Sl tTrio W (fun _ => True) b l → Calls Tryz.prog 78 #[.slice la l.length lc, .slice b l.length cb] W fun e w' => e = .returned (.bool true) ∧ Below W.heap.size W w') := Lib.hid (fun W hW b cb hsb =>
        sameTri_is l l la b lc cb W (Sl.keep (fun k hk _ => hW.block k hk) hsl) hsb hlm hlm rfl)
      have HCE : Hid (∀ W, Below wr.heap.size wr W → W.cell? (ad.add n) = some (.slice la l.length lc)) := Lib.hid (fun W hW => (hW.cell (p := ad.add n) (by rw [add_block]; exact hadl)).trans hc0)
      have HBD : Hid (Below wr.heap.size wr wr.drew) := Lib.hid (Below.drew (Below.refl _ _))
      clear hl hmk hll hv hsl hlm hadl
      go_wp2_with fail
      go_region_held3 (fun w' => w'.cell? (ad.add n) = some (.slice la l.length lc)) (first | with_reducible exact HCE.out _ HB3.out | with_reducible exact HCE.out _ HB2.out | with_reducible exact HCE.out _ HBD.out) (first | (go_at_call 88; refine HMK.out.mono ?_; rintro en w2 ⟨v2, rfl, ho, hb⟩; obtain ⟨ta, tc, rfl, _, _, hts⟩ := ho.slice; have HTS := Lib.hid hts; have HB2 : Hid (Below wr.heap.size wr w2) := Lib.hid (belows_then HBD.out HBD.out.size hb); clear ho hb hts) | (go_at_call 78; refine (HSB.out _ HB2.out ta tc HTS.out).mono ?_; rintro en w4 ⟨rfl, hb⟩; have HB3 : Hid (Below wr.heap.size wr w4) := Lib.hid (belows_then HB2.out HB2.out.size hb); clear hb))
      have HBN := Lib.hid (HB.out.trans (HB3.out.mono HB.out.size))
      go_wp2_with fail
      go_roundw
      case rel => exact ⟨n + 1, by omega, by go_num, HBN.out⟩
      case measure => simp [Go.RowKit.intOf]; omega
    · go_wp2_with fail
      go_ret
      exact ⟨rfl, HB.out⟩
end Go.Proofs.YtacemlbfifhllaaGreat
