
/- law 16: one journal with one change (Changed). -/
import Derived.Test.YtfbbjlhhkfdncaaMk
set_option linter.unusedVariables false
set_option linter.unusedSimpArgs false
namespace Go.Proofs.Ytfbbjlhhkfdncaa
open Go.RowKit Go.Maps

def q5 : Jn := ⟨5, 1, 3, ⟨#[]⟩, [⟨1, 5, 0⟩, ⟨2, -5, 0⟩], false⟩
def q5a : Jn := ⟨5, 1, 7, ⟨#[]⟩, [⟨1, 5, 0⟩, ⟨2, -5, 0⟩], false⟩
def q5b : Jn := ⟨5, 1, 3, ⟨#[]⟩, [⟨1, 5, 0⟩, ⟨2, -5, 0⟩], true⟩
def q5d : Jn := ⟨5, 1, 3, ⟨#[]⟩, [⟨1, 8, 0⟩, ⟨2, -8, 0⟩], false⟩
/-- the journal with a change -/
def edJ (h : Int) : Jn := if h = 1 then q5a else if h = 2 then q5b else if h = 4 then q5d else q5
def chL (h : Int) : List Jn := if h = 3 then [] else [edJ h]
theorem ed_lines (h : Int) : (edJ h).lines ≠ [] := by
  unfold edJ
  split
  · decide
  · split
    · decide
    · split <;> decide
theorem ed_post (h : Int) : postJ [] (edJ h) = 0 := by
  unfold edJ
  split
  · decide +kernel
  · split
    · decide +kernel
    · split <;> decide +kernel
theorem ed_put (h : Int) (hh : h ≠ 3) : putJ [] (edJ h) = chL h := by
  unfold chL
  rw [if_neg hh]
  rfl

set_option maxHeartbeats 16000000 in
set_option maxRecDepth 100000 in
theorem changed1 (h : Int) (hh : h = 0 ∨ h = 1 ∨ h = 2 ∨ h = 3 ∨ h = 4) (ab eb jc : Nat) (ja : Option Addr) (w : World) {F : Nat → Prop} (hj : w.heap[ab]? = some (.cells #[.int .i64 q5.id, .int .i64 q5.en, .int .i64 q5.pe, .string q5.ref, .slice ja q5.lines.length jc, .bool q5.void] 31 (0, 0))) (hr : tJn.R w F (jcs q5 ja jc) q5) (he : w.heap[eb]? = some (.cells #[.int .i64 5, .int .i64 h, .int .i64 7] 46 (0, 0))) :
    Calls Try.prog 18 #[.slice (some ⟨ab, 0, none⟩) 1 1, .slice (some ⟨eb, 0, none⟩) 1 1, .slice none 0 0] w fun e w' => ∃ v, e = .returned v ∧ OwnL tJn w' w.heap.size v (chL h) ∧ Below w.heap.size w w' := by
  have HJ := Lib.hid hj
  have HR := Lib.hid hr
  have HE := Lib.hid he
  have HH := Lib.hid hh
  have hz := blk_cells hj
  have hzl := blk_lt hj
  have hel := blk_lt he
  clear hj hr he hh
  go_enter Try.func18, Try.ntmps18
  go_wp2_with fail
  go_loopw [7, 8] (fun vo vi wr => ∃ (n : Nat) (vx : Value), vx = vo ∧ n ≤ 1 ∧ vi = .int .i64 n ∧ (n = 0 → vx = .slice none 0 0 ∧ wr = w) ∧ (n = 1 → OwnL tJn wr w.heap.size vx (chL h)) ∧ Below w.heap.size w wr) (fun _ vi _ => 1 - (intOf vi).toNat)
  case atStart => exact ⟨0, _, rfl, by omega, rfl, (fun _ => ⟨rfl, rfl⟩), (fun h => absurd h (by decide)), Below.refl _ _⟩
  case round =>
    obtain ⟨n, vx, rfl, hn, rfl, h0, h1, hb⟩ := hrel
    rcases (show n = 0 ∨ n = 1 by omega) with rfl | rfl
    · obtain ⟨rfl, hwr⟩ := h0 rfl
      clear h0 h1 hb
      replace hwr := hwr.symm
      subst hwr
      go_wp2_with fail
      refine (rcopy_any q5 ja jc w HR.out (by decide)).mono ?_
      rintro en w2 ⟨a2, c2, rfl, hb, hr2⟩
      have HB2 := Lib.hid hb
      have HE3 := Lib.hid (blk_alloc (blk_below HE.out hb) (.cells #[.int .i64 q5.id, .int .i64 q5.en, .int .i64 q5.pe, .string q5.ref, .slice a2 q5.lines.length c2, .bool q5.void] 31))
      have HZ3 := Lib.hid (blk_new w2 (.cells #[.int .i64 q5.id, .int .i64 q5.en, .int .i64 q5.pe, .string q5.ref, .slice a2 q5.lines.length c2, .bool q5.void] 31))
      have HR3 := Lib.hid (tJn.keep (fun k hk _ => Below.heap_alloc w2 (.cells #[.int .i64 q5.id, .int .i64 q5.en, .int .i64 q5.pe, .string q5.ref, .slice a2 q5.lines.length c2, .bool q5.void] 31) k hk) hr2)
      have hs2 := hb.size
      clear hb hr2 hz
      go_wp2_with fail
      go_loopw [10, 11] (fun vg vk wi => ∃ (n : Nat) (x : Jn) (ax : Option Addr) (cx : Nat) (g : Bool), n ≤ 1 ∧ vk = .int .i64 n ∧ vg = .bool g ∧ (n = 0 → x = q5 ∧ g = false) ∧ (n = 1 → x = edJ h ∧ g = (h == 3)) ∧ wi.heap[w2.heap.size]? = some (.cells #[.int .i64 x.id, .int .i64 x.en, .int .i64 x.pe, .string x.ref, .slice ax x.lines.length cx, .bool x.void] 31 (0, 0)) ∧ tJn.R wi (fun k => w.heap.size ≤ k ∧ k ≠ w2.heap.size) (jcs x ax cx) x ∧ wi.heap[eb]? = some (.cells #[.int .i64 5, .int .i64 h, .int .i64 7] 46 (0, 0)) ∧ Below w.heap.size w wi) (fun _ vk _ => 1 - (intOf vk).toNat)
      case atStart => exact ⟨0, q5, a2, c2, false, by omega, rfl, rfl, fun _ => ⟨rfl, rfl⟩, (fun h => absurd h (by decide)), HZ3.out, tJn.mono (fun k _ hf => ⟨hf.1, by have := hf.2; omega⟩) HR3.out, HE3.out, HB2.out.alloc hs2 _⟩
      case round =>
        obtain ⟨n, x, ax, cx, g, hn, rfl, rfl, h0, h1, hc, hr, he, hb⟩ := hrel
        rcases (show n = 0 ∨ n = 1 by omega) with rfl | rfl
        · obtain ⟨rfl, rfl⟩ := h0 rfl
          have HC := Lib.hid hc
          have HRC := Lib.hid hr
          have HBC := Lib.hid hb
          have HEC := Lib.hid he
          have hz9 := blk_cells hc
          have hzf9 := blk_frz hc
          have hzl9 := blk_lt hc
          have hze := blk_cells he
          have hel9 := blk_lt he
          have hid5 : q5.id = 5 := rfl
          clear hc hr he hb h0 h1
          rcases HH.out with rfl | rfl | rfl | rfl | rfl
          · go_wp2_with fail
            go_quiet (fail)
            go_wp2_with fail
            refine ⟨?_, ?measure⟩
            (repeat apply Exists.intro)
            refine ⟨?rel, rfl⟩
            case rel => exact ⟨1, edJ 0, ax, cx, false, by omega, by go_num, rfl, (fun h => absurd h (by decide)), (fun _ => ⟨rfl, rfl⟩), blk_drew HC.out _, tJn.keep (fun k hk _ => rfl) HRC.out, blk_drew HEC.out _, below_drewN HBC.out _⟩
            case measure => simp [intOf]
          · go_wp2_with fail
            go_quiet (fail)
            go_wp2_with fail
            refine ⟨?_, ?measure⟩
            (repeat apply Exists.intro)
            refine ⟨?rel, rfl⟩
            case rel =>
              obtain ⟨_, _, _, _, h5, h6, h7, h8⟩ := jcs_inv HRC.out
              exact ⟨1, edJ 1, ax, cx, false, by omega, by go_num, rfl, (fun h => absurd h (by decide)), (fun _ => ⟨rfl, rfl⟩), blk_set (blk_drew HC.out _) 2 _, jn_mk q5a (by decide) (by decide) (by decide) (by decide) (Sl.keep (w := wr) (fun k hk hf => Below.heap_setCell _ _ _ k hf.2) h5) h6 h7 h8, blk_far (blk_drew HEC.out _) (p := ⟨w2.heap.size, 2, none⟩) (by show eb ≠ w2.heap.size; omega) _, (below_drewN HBC.out _).setCell (p := ⟨w2.heap.size, 2, none⟩) hs2 _⟩
            case measure => simp [intOf]
          · go_wp2_with fail
            go_quiet (fail)
            go_wp2_with fail
            refine ⟨?_, ?measure⟩
            (repeat apply Exists.intro)
            refine ⟨?rel, rfl⟩
            case rel =>
              obtain ⟨_, _, _, _, h5, h6, h7, h8⟩ := jcs_inv HRC.out
              exact ⟨1, edJ 2, ax, cx, false, by omega, by go_num, rfl, (fun h => absurd h (by decide)), (fun _ => ⟨rfl, rfl⟩), blk_set (blk_drew HC.out _) 5 _, jn_mk q5b (by decide) (by decide) (by decide) (by decide) (Sl.keep (w := wr) (fun k hk hf => Below.heap_setCell _ _ _ k hf.2) h5) h6 h7 h8, blk_far (blk_drew HEC.out _) (p := ⟨w2.heap.size, 5, none⟩) (by show eb ≠ w2.heap.size; omega) _, (below_drewN HBC.out _).setCell (p := ⟨w2.heap.size, 5, none⟩) hs2 _⟩
            case measure => simp [intOf]
          · go_wp2_with fail
            go_quiet (fail)
            go_wp2_with fail
            refine ⟨?_, ?measure⟩
            (repeat apply Exists.intro)
            refine ⟨?rel, rfl⟩
            case rel => exact ⟨1, edJ 3, ax, cx, true, by omega, by go_num, rfl, (fun h => absurd h (by decide)), (fun _ => ⟨rfl, rfl⟩), blk_drew HC.out _, tJn.keep (fun k hk _ => rfl) HRC.out, blk_drew HEC.out _, below_drewN HBC.out _⟩
            case measure => simp [intOf]
          · go_wp2_with fail
            go_quiet (fail)
            have hzd : w2.heap.size < (wr.drewN nq).heap.size := hzl9
            have hz9d := blk_cells (blk_drew HC.out nq)
            have hzf9d := blk_frz (blk_drew HC.out nq)
            have hzA := blk_cells (blk_alloc (blk_drew HC.out nq) (.cells #[.int .i64 1, .int .i64 8, .int .i64 0, .int .i64 2, .int .i64 (-8), .int .i64 0] 43))
            have hzfA := blk_frz (blk_alloc (blk_drew HC.out nq) (.cells #[.int .i64 1, .int .i64 8, .int .i64 0, .int .i64 2, .int .i64 (-8), .int .i64 0] 43))
            go_wp2_with fail
            refine ⟨?_, ?measure⟩
            (repeat apply Exists.intro)
            refine ⟨?rel, rfl⟩
            case rel =>
              have hne9 : wr.heap.size ≠ w2.heap.size := by omega
              have hbs9 := HBC.out.size
              have hln : (((wr.drewN nq).alloc (.cells #[.int .i64 1, .int .i64 8, .int .i64 0, .int .i64 2, .int .i64 (-8), .int .i64 0] 43)).setCell ⟨w2.heap.size, 4, none⟩ (.slice (some ⟨wr.heap.size, 0, none⟩) 2 2)).heap[wr.heap.size]? = some (.cells #[.int .i64 1, .int .i64 8, .int .i64 0, .int .i64 2, .int .i64 (-8), .int .i64 0] 43 (0, 0)) := blk_far (blk_new (wr.drewN nq) (.cells #[.int .i64 1, .int .i64 8, .int .i64 0, .int .i64 2, .int .i64 (-8), .int .i64 0] 43)) (p := ⟨w2.heap.size, 4, none⟩) hne9 _
              exact ⟨1, edJ 4, some ⟨wr.heap.size, 0, none⟩, 2, false, by omega, by go_num, rfl, (fun h => absurd h (by decide)), (fun _ => ⟨rfl, rfl⟩), blk_set (blk_alloc (blk_drew HC.out _) _) 4 _, jn_mk q5d (by decide) (by decide) (by decide) (by decide) (sl_lns2 ⟨1, 8, 0⟩ ⟨2, -8, 0⟩ hln ⟨hbs9, hne9⟩ ⟨by decide, by decide, by decide⟩ ⟨by decide, by decide, by decide⟩) (by decide) (by decide) (by rw [line_bytes]; decide), blk_far (blk_alloc (blk_drew HEC.out _) _) (p := ⟨w2.heap.size, 4, none⟩) (by show eb ≠ w2.heap.size; omega) _, ((below_drewN HBC.out _).alloc hbs9 _).setCell (p := ⟨w2.heap.size, 4, none⟩) hs2 _⟩
            case measure => simp [intOf]
        · obtain ⟨rfl, rfl⟩ := h1 rfl
          have HC := Lib.hid hc
          have HRC := Lib.hid hr
          have HBC := Lib.hid hb
          have hz9 := blk_cells hc
          have hzl9 := blk_lt hc
          clear hc hr he hb h0 h1
          cases hg : h == 3
          · have hh3 : h ≠ 3 := by simpa using hg
            have HH3 := Lib.hid hh3
            have HSL : Hid (Sl tLn wr (fun _ => True) ax (edJ h).lines) := Lib.hid (Sl.mono (fun _ _ _ => trivial) (jcs_inv HRC.out).2.2.2.2.1)
            have HPO := Lib.hid (rpost_any [] none 0 (edJ h) ax cx wr (F := fun _ => True) (fun i x hx => by simp at hx) (by simp) HSL.out)
            clear hg hh3
            go_wp2_with fail
            refine HPO.out.mono ?_
            rintro en w5 ⟨rfl, hb⟩
            rw [ed_post]
            have HC5 := Lib.hid (blk_below HC.out hb)
            have HR5 := Lib.hid (tJn.keep (fun k hk _ => hb.block k hk) HRC.out)
            have HB5 := Lib.hid (belows_then HBC.out HBC.out.size hb)
            have hz5 := blk_cells HC5.out
            have hzl5 := blk_lt HC5.out
            clear hb hz9 hzl9
            go_wp2_with fail
            refine (rput_any [] none 0 (edJ h) ax cx w5 (F := fun _ => True) (fun i x hx => by simp at hx) (by simp) HR5.out (ed_lines h)).mono ?_
            rintro en w6 ⟨v6, rfl, ho, hb⟩
            rw [ed_put h HH3.out] at ho
            have HO := Lib.hid (ho.mono HB5.out.size)
            have HB6 := Lib.hid (belows_then HB5.out HB5.out.size hb)
            clear ho hb
            go_wp2_with fail
            go_roundw
            case rel => exact ⟨1, _, rfl, by omega, by go_num, (fun h => absurd h (by decide)), (fun _ => HO.out), HB6.out⟩
            case measure => simp [intOf]
          · obtain rfl : h = 3 := by simpa using hg
            clear hg
            go_wp2_with fail
            go_roundw
            case rel => exact ⟨1, _, rfl, by omega, by go_num, (fun h => absurd h (by decide)), (fun _ => OwnL.nil _ _), HBC.out⟩
            case measure => simp [intOf]
    · have HO := Lib.hid (h1 rfl)
      have HB := Lib.hid hb
      clear h0 h1 hb
      go_wp2_with fail
      go_loopw [7, 13] (fun v7 v wi => v7 = vx ∧ v = .int .i64 0 ∧ wi = wr) (fun _ _ _ => 0)
      case atStart => exact ⟨rfl, rfl, rfl⟩
      case round =>
        obtain ⟨rfl, rfl, rfl⟩ := hrel
        go_wp2_with fail
        go_ret
        exact ⟨_, rfl, HO.out, HB.out⟩
end Go.Proofs.Ytfbbjlhhkfdncaa
