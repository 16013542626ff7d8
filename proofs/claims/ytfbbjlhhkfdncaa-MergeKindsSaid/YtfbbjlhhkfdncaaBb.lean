/- slices.IndexFunc, ContainsFunc at a holder's question. -/
import Derived.Test.YtfbbjlhhkfdncaaBa
set_option linter.unusedVariables false
set_option linter.unusedSimpArgs false
namespace Go.Proofs.Ytfbbjlhhkfdncaa
open Go.RowKit Go.Maps

theorem holds_is (h x : Jn) (ha xa : Option Addr) (hc xc : Nat) (w : World) {b : Bool} (hb : clash h x = b) :
    Calls Try.prog 128 #[jnv h ha hc, jnv x xa xc] w fun e w' => e = .returned (.bool b) ∧ Below w.heap.size w w' := by
  have := holds_any h x ha xa hc xc w
  rwa [hb] at this

def IdxPost (w : World) (b : Bool) (e : Ending) (w' : World) : Prop := (∃ k : Int, e = .returned (.int .i64 k) ∧ decide (0 ≤ k) = b) ∧ Below w.heap.size w w'
set_option maxHeartbeats 2000000 in
set_option maxRecDepth 100000 in
theorem indexJ_any (l : List Jn) (a : Option Addr) (cap : Nat) (h : Jn) (ha : Option Addr) (hc : Nat) (w : World) {F : Nat → Prop} (hs : Sl tJn w F a l) (hl : l.length ≤ maxLen) :
    Calls Try.prog 152 #[.slice a l.length cap, .func (.func 128) #[jnv h ha hc] #[]] w (IdxPost w (l.any (clash h))) := by
  have HS := Lib.hid hs
  have hl' : l.length ≤ 9223372036854775807 := by unfold maxLen at hl; omega
  clear hs hl
  generalize hres : l.any (clash h) = res
  have HR := Lib.hid hres
  clear hres
  go_enter Try.func152, Try.ntmps152
  go_wp2_with fail
  go_loopw [8] (fun vi wr => ∃ n : Nat, n ≤ l.length ∧ vi = .int .i64 n ∧ Hid ((l.take n).any (clash h) = false) ∧ Below w.heap.size w wr) (fun vi _ => l.length - (intOf vi).toNat)
  case atStart => exact ⟨0, Nat.zero_le _, rfl, rfl, Below.refl _ _⟩
  case round =>
    obtain ⟨n, hn, rfl, hany, hb⟩ := hrel
    have HB1 := Lib.hid hb
    clear hb
    by_cases hlt : n < l.length
    · obtain ⟨ad, la, lc, rfl, _, hadl, hc0, hc1, hc2, hc3, hc4, hc5, hr⟩ := jn_at (Sl.keep (fun k hk _ => HB1.out.block k hk) HS.out) n hlt
      clear hr
      go_wp2_with fail
      cases hv : clash h l[n]
      · refine (holds_is h l[n] ha la hc lc _ hv).mono ?_
        rintro e w2 ⟨rfl, hb⟩
        have HB2 := Lib.hid (belows_then HB1.out HB1.out.size hb)
        have HN := Lib.hid ((any_take_succ (clash h) l n hlt).trans (by rw [hany.out, hv]; try rfl))
        clear hb hc0 hc1 hc2 hc3 hc4 hc5 hadl hv
        go_wp2_with fail
        go_roundw
        case rel => exact ⟨n + 1, by omega, by go_num, HN.out, HB2.out⟩
        case measure => simp [intOf]; omega
      · refine (holds_is h l[n] ha la hc lc _ hv).mono ?_
        rintro e w2 ⟨rfl, hb⟩
        have HB2 := Lib.hid (belows_then HB1.out HB1.out.size hb)
        have hr : res = true := by rw [← HR.out]; exact any_at _ l n hlt hv
        have HRR := Lib.hid hr
        clear hb hc0 hc1 hc2 hc3 hc4 hc5 hadl hv hr
        go_wp2_with fail
        go_ret
        rw [HRR.out]
        exact ⟨⟨_, rfl, by simp⟩, HB2.out⟩
    · have hr : res = false := by
        rw [← HR.out]
        have := hany.out
        rwa [take_all hn hlt] at this
      have HRR := Lib.hid hr
      clear hr
      go_wp2_with fail
      go_ret
      rw [HRR.out]
      exact ⟨⟨_, rfl, by decide⟩, HB1.out⟩

set_option maxHeartbeats 2000000 in
theorem containsJ_any (l : List Jn) (a : Option Addr) (cap : Nat) (h : Jn) (ha : Option Addr) (hc : Nat) (w : World) {F : Nat → Prop} (hs : Sl tJn w F a l) (hl : l.length ≤ maxLen) :
    Calls Try.prog 127 #[.slice a l.length cap, .func (.func 128) #[jnv h ha hc] #[]] w fun e w' => e = .returned (.bool (l.any (clash h))) ∧ Below w.heap.size w w' := by
  have H := indexJ_any l a cap h ha hc w hs hl
  generalize l.any (clash h) = res at H ⊢
  have HH := Lib.hid H
  clear H hs hl
  go_enter Try.func127, Try.ntmps127
  go_wp2_with fail
  refine HH.out.mono ?_
  rintro e w' ⟨⟨k, rfl, hk⟩, hb⟩
  have HK := Lib.hid hk
  clear hk
  go_wp2_with fail
  go_ret
  rw [← HK.out]
  exact ⟨rfl, hb⟩
end Go.Proofs.Ytfbbjlhhkfdncaa
