/- variorumbook: stillBalances. -/
import Derived.Test.YtacemlbfifhllaaGreatX25GatesPlay
import Derived.Test.YtacemlbfifhllaaGreatX26GatesPlay
set_option linter.unusedVariables false
set_option linter.unusedSimpArgs false
namespace Go.Proofs.YtacemlbfifhllaaGreat
open Go.RowKit Go.Maps Go.Deep

set_option maxHeartbeats 8000000 in
set_option maxRecDepth 100000 in
theorem stillBal_any {w : World} {b : Nat} {cs : Array Value} {F G : Nat → Prop} {a6 a7 : Option Addr} {c6 c7 : Nat} {vs us : List Value} {L : List (List (Int × Int))} (hb : w.heap[b]? = some (.cells cs 41 (0, 0)))
    (h6 : cs[6]? = some (.slice a6 vs.length c6)) (h7 : cs[7]? = some (.slice a7 us.length c7)) (hs : Sl tBalV w F a6 vs) (ht : Sl tBalV w G a7 us) (hr : Reads w vs L) (hq : Reads w us L) (hn : vs.length ≤ 1000)
    (hL : ∀ (i : Nat) (l : List (Int × Int)), L[i]? = some l → l.length ≤ maxLen) :
    Calls Tryz.prog 28 #[.pointer (some ⟨b, 0, none⟩)] w fun e w' => e = .returned (.bool true) ∧ Below w.heap.size w w' := by
  have HS := Lib.hid hs
  have HT := Lib.hid ht
  have HR := Lib.hid hr
  have HQ := Lib.hid hq
  have HL := Lib.hid hL
  have hbl := blk_lt hb
  have HC6 : Hid (∀ W, Below w.heap.size w W → W.cell? ⟨b, 6, none⟩ = some (.slice a6 vs.length c6)) := Lib.hid (fun W hW => by rw [blk_cells (blk_below hb hW)]; exact h6)
  have HC7 : Hid (∀ W, Below w.heap.size w W → W.cell? ⟨b, 7, none⟩ = some (.slice a7 us.length c7)) := Lib.hid (fun W hW => by rw [blk_cells (blk_below hb hW)]; exact h7)
  clear hs ht hr hq hL hb h6 h7
  go_enter Tryz.func28, Tryz.ntmps28
  go_wp2_with fail
  go_loopw [3] (fun vi wr => ∃ n : Nat, n ≤ vs.length ∧ vi = .int .i64 n ∧ Below w.heap.size w wr) (fun vi _ => vs.length - (Go.RowKit.intOf vi).toNat)
  case atStart => exact ⟨0, Nat.zero_le _, rfl, Below.refl _ _⟩
  case round =>
    obtain ⟨n, hnn, rfl, hb⟩ := hrel
    have HB := Lib.hid hb
    have hbl' : b < wr.heap.size := Nat.lt_of_lt_of_le hbl hb.size
    have hz6 := HC6.out wr hb
    clear hb
    by_cases hlt : n < vs.length
    · have hlt2 : n < L.length := by have := HR.out.1; omega
      have hlt3 : n < us.length := by have := HQ.out.1; omega
      obtain ⟨l, hl⟩ : ∃ l, L[n]? = some l := ⟨_, List.getElem?_eq_getElem hlt2⟩
      have hlm := HL.out n l hl
      obtain ⟨la, lc, hv, hsl⟩ := (HR.out.keep HB.out).2 n vs[n] l (List.getElem?_eq_getElem hlt) hl
      obtain ⟨ma, mc, hu, hsm⟩ := (HQ.out.keep HB.out).2 n us[n] l (List.getElem?_eq_getElem hlt3) hl
      obtain ⟨ad, rfl, hadl, hc0⟩ := val_at (Sl.keep (fun k hk _ => HB.out.block k hk) HS.out) n hlt
      obtain ⟨bd, rfl, hbdl, hd0⟩ := val_at (Sl.keep (fun k hk _ => HB.out.block k hk) HT.out) n hlt3
      rw [hv] at hc0
      rw [hu] at hd0
      have HSB : Hid (Calls Tryz.prog 73 #[.slice la l.length lc, .slice ma l.length mc] wr.drew fun e w' => e = .returned (.bool true) ∧ Below wr.drew.heap.size wr.drew w') := Lib.hid (
        sameBal_is l l la ma lc mc wr.drew (Sl.keep (w := wr) (fun k hk _ => rfl) hsl) (Sl.keep (w := wr) (fun k hk _ => rfl) hsm) hlm hlm rfl)
      have HBD : Hid (Below wr.heap.size wr wr.drew) := Lib.hid (Below.drew (Below.refl _ _))
      have HCE : Hid (∀ W, Below wr.heap.size wr W → W.cell? ⟨b, 6, none⟩ = some (.slice (some ad) vs.length c6) ∧ W.cell? ⟨b, 7, none⟩ = some (.slice (some bd) us.length c7) ∧ W.cell? (ad.add n) = some (.slice la l.length lc) ∧ W.cell? (bd.add n) = some (.slice ma l.length mc)) := Lib.hid (fun W hW =>
        ⟨HC6.out W (HB.out.trans (hW.mono HB.out.size)), HC7.out W (HB.out.trans (hW.mono HB.out.size)), (hW.cell (p := ad.add n) (by rw [add_block]; exact hadl)).trans hc0, (hW.cell (p := bd.add n) (by rw [add_block]; exact hbdl)).trans hd0⟩)
      clear hl hlm hv hsl hu hsm hadl hbdl hc0 hd0
      go_wp2_with fail
      go_region_held3 (fun w' => w'.cell? ⟨b, 6, none⟩ = some (.slice (some ad) vs.length c6) ∧ w'.cell? ⟨b, 7, none⟩ = some (.slice (some bd) us.length c7) ∧ w'.cell? (ad.add n) = some (.slice la l.length lc) ∧ w'.cell? (bd.add n) = some (.slice ma l.length mc)) (first | with_reducible exact HCE.out _ HB3.out | with_reducible exact HCE.out _ HBD.out) ((go_at_call 73; refine HSB.out.mono ?_; rintro en w4 ⟨rfl, hb⟩; have HB3 : Hid (Below wr.heap.size wr w4) := Lib.hid (belows_then HBD.out HBD.out.size hb); clear hb))
      have HBN := Lib.hid (HB.out.trans (HB3.out.mono HB.out.size))
      go_wp2_with fail
      go_roundw
      case rel => exact ⟨n + 1, by omega, by go_num, HBN.out⟩
      case measure => simp [Go.RowKit.intOf]; omega
    · go_wp2_with fail
      go_ret
      exact ⟨rfl, HB.out⟩
end Go.Proofs.YtacemlbfifhllaaGreat


/- variorumbook: stillTrios. Printed by mktrios.py. -/
set_option linter.unusedVariables false
set_option linter.unusedSimpArgs false
namespace Go.Proofs.YtacemlbfifhllaaGreat
open Go.RowKit Go.Maps Go.Deep

set_option maxHeartbeats 8000000 in
set_option maxRecDepth 100000 in
theorem stillTrio_any {w : World} {b : Nat} {cs : Array Value} {F G : Nat → Prop} {a6 a7 : Option Addr} {c6 c7 : Nat} {vs us : List Value} {L : List (List (Int × Int × Int))} (hb : w.heap[b]? = some (.cells cs 41 (0, 0)))
    (h6 : cs[16]? = some (.slice a6 vs.length c6)) (h7 : cs[17]? = some (.slice a7 us.length c7)) (hs : Sl tTrioV w F a6 vs) (ht : Sl tTrioV w G a7 us) (hr : ReadsT w vs L) (hq : ReadsT w us L) (hn : vs.length ≤ 1000)
    (hL : ∀ (i : Nat) (l : List (Int × Int × Int)), L[i]? = some l → l.length ≤ maxLen) :
    Calls Tryz.prog 33 #[.pointer (some ⟨b, 0, none⟩)] w fun e w' => e = .returned (.bool true) ∧ Below w.heap.size w w' := by
  have HS := Lib.hid hs
  have HT := Lib.hid ht
  have HR := Lib.hid hr
  have HQ := Lib.hid hq
  have HL := Lib.hid hL
  have hbl := blk_lt hb
  have HC6 : Hid (∀ W, Below w.heap.size w W → W.cell? ⟨b, 16, none⟩ = some (.slice a6 vs.length c6)) := Lib.hid (fun W hW => by rw [blk_cells (blk_below hb hW)]; exact h6)
  have HC7 : Hid (∀ W, Below w.heap.size w W → W.cell? ⟨b, 17, none⟩ = some (.slice a7 us.length c7)) := Lib.hid (fun W hW => by rw [blk_cells (blk_below hb hW)]; exact h7)
  clear hs ht hr hq hL hb h6 h7
  go_enter Tryz.func33, Tryz.ntmps33
  go_wp2_with fail
  go_loopw [3] (fun vi wr => ∃ n : Nat, n ≤ vs.length ∧ vi = .int .i64 n ∧ Below w.heap.size w wr) (fun vi _ => vs.length - (Go.RowKit.intOf vi).toNat)
  case atStart => exact ⟨0, Nat.zero_le _, rfl, Below.refl _ _⟩
  case round =>
    obtain ⟨n, hnn, rfl, hb⟩ := hrel
    have HB := Lib.hid hb
    have hbl' : b < wr.heap.size := Nat.lt_of_lt_of_le hbl hb.size
    have hz6 := HC6.out wr hb
    clear hb
    by_cases hlt : n < vs.length
    · have hlt2 : n < L.length := by have := HR.out.1; omega
      have hlt3 : n < us.length := by have := HQ.out.1; omega
      obtain ⟨l, hl⟩ : ∃ l, L[n]? = some l := ⟨_, List.getElem?_eq_getElem hlt2⟩
      have hlm := HL.out n l hl
      obtain ⟨la, lc, hv, hsl⟩ := (HR.out.keep HB.out).2 n vs[n] l (List.getElem?_eq_getElem hlt) hl
      obtain ⟨ma, mc, hu, hsm⟩ := (HQ.out.keep HB.out).2 n us[n] l (List.getElem?_eq_getElem hlt3) hl
      obtain ⟨ad, rfl, hadl, hc0⟩ := val_atT (Sl.keep (fun k hk _ => HB.out.block k hk) HS.out) n hlt
      obtain ⟨bd, rfl, hbdl, hd0⟩ := val_atT (Sl.keep (fun k hk _ => HB.out.block k hk) HT.out) n hlt3
      rw [hv] at hc0
      rw [hu] at hd0
      have HSB : Hid (Calls Tryz.prog 78 #[.slice la l.length lc, .slice ma l.length mc] wr.drew fun e w' => e = .returned (.bool true) ∧ Below wr.drew.heap.size wr.drew w') := Lib.hid (
        sameTri_is l l la ma lc mc wr.drew (Sl.keep (w := wr) (fun k hk _ => rfl) hsl) (Sl.keep (w := wr) (fun k hk _ => rfl) hsm) hlm hlm rfl)
      have HBD : Hid (Below wr.heap.size wr wr.drew) := Lib.hid (Below.drew (Below.refl _ _))
      have HCE : Hid (∀ W, Below wr.heap.size wr W → W.cell? ⟨b, 16, none⟩ = some (.slice (some ad) vs.length c6) ∧ W.cell? ⟨b, 17, none⟩ = some (.slice (some bd) us.length c7) ∧ W.cell? (ad.add n) = some (.slice la l.length lc) ∧ W.cell? (bd.add n) = some (.slice ma l.length mc)) := Lib.hid (fun W hW =>
        ⟨HC6.out W (HB.out.trans (hW.mono HB.out.size)), HC7.out W (HB.out.trans (hW.mono HB.out.size)), (hW.cell (p := ad.add n) (by rw [add_block]; exact hadl)).trans hc0, (hW.cell (p := bd.add n) (by rw [add_block]; exact hbdl)).trans hd0⟩)
      clear hl hlm hv hsl hu hsm hadl hbdl hc0 hd0
      go_wp2_with fail
      go_region_held3 (fun w' => w'.cell? ⟨b, 16, none⟩ = some (.slice (some ad) vs.length c6) ∧ w'.cell? ⟨b, 17, none⟩ = some (.slice (some bd) us.length c7) ∧ w'.cell? (ad.add n) = some (.slice la l.length lc) ∧ w'.cell? (bd.add n) = some (.slice ma l.length mc)) (first | with_reducible exact HCE.out _ HB3.out | with_reducible exact HCE.out _ HBD.out) ((go_at_call 78; refine HSB.out.mono ?_; rintro en w4 ⟨rfl, hb⟩; have HB3 : Hid (Below wr.heap.size wr w4) := Lib.hid (belows_then HBD.out HBD.out.size hb); clear hb))
      have HBN := Lib.hid (HB.out.trans (HB3.out.mono HB.out.size))
      go_wp2_with fail
      go_roundw
      case rel => exact ⟨n + 1, by omega, by go_num, HBN.out⟩
      case measure => simp [Go.RowKit.intOf]; omega
    · go_wp2_with fail
      go_ret
      exact ⟨rfl, HB.out⟩
end Go.Proofs.YtacemlbfifhllaaGreat
