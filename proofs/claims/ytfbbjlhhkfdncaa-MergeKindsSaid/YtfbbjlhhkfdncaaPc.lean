/- law6.Fit: the journals that can be posted one behind the other. -/
import Derived.Test.YtfbbjlhhkfdncaaPb
set_option linter.unusedVariables false
set_option linter.unusedSimpArgs false
namespace Go.Proofs.Ytfbbjlhhkfdncaa
open Go.RowKit Go.Maps

def fitStep (m : Nat) (O : List Jn) (x : Jn) : List Jn := if O.length < m then (if decide ((x.lines.length : Int) ≤ 8) && postJ O x == 0 then putJ O x else O) else O
def fitJ (m : Nat) (l : List Jn) : List Jn := l.foldl (fitStep m) []
theorem fitJ_succ (m : Nat) (l : List Jn) (n : Nat) (hn : n < l.length) : fitJ m (l.take (n + 1)) = fitStep m (fitJ m (l.take n)) l[n] := by
  unfold fitJ
  rw [List.take_succ_eq_append_getElem hn, List.foldl_append]
  rfl
theorem fit_stop (m : Nat) (O : List Jn) (h : ¬ O.length < m) : ∀ (l : List Jn), l.foldl (fitStep m) O = O
  | [] => rfl
  | x :: r => by
    rw [List.foldl_cons]
    have : fitStep m O x = O := by simp [fitStep, h]
    rw [this]
    exact fit_stop m O h r
theorem fitJ_full (m : Nat) (l : List Jn) (n : Nat) (h : ¬ (fitJ m (l.take n)).length < m) : fitJ m l = fitJ m (l.take n) := by
  have : fitJ m l = (l.drop n).foldl (fitStep m) (fitJ m (l.take n)) := by
    unfold fitJ
    rw [← List.foldl_append, List.take_append_drop]
  rw [this, fit_stop m _ h]
theorem putJ_len (l : List Jn) (j : Jn) : (putJ l j).length ≤ l.length + 1 := by
  have := putS_len j l
  unfold putJ
  split
  · rename_i h; rw [h] at this; simpa using this
  · rename_i h; simp [h] at this; simp; omega
theorem fitJ_len (m : Nat) : ∀ (l : List Jn) (O : List Jn), O.length ≤ m → (l.foldl (fitStep m) O).length ≤ m
  | [], O, h => h
  | x :: r, O, h => by
    rw [List.foldl_cons]
    refine fitJ_len m r _ ?_
    unfold fitStep
    split
    · split
      · have := putJ_len O x; omega
      · exact h
    · exact h
theorem post_ok_lines {O : List Jn} {x : Jn} (h : postJ O x = 0) : x.lines ≠ [] := by
  have h1 : chk x = 0 := by
    rcases post_cases O x with ⟨h1, h2⟩ | ⟨h1, _⟩
    · rw [h] at h2; exact h2.symm
    · simpa using h1
  intro he
  have : frontBad x = true := by simp [frontBad, he]
  simp [chk, this] at h1

theorem rpost_is (l : List Jn) (a : Option Addr) (cap : Nat) (j : Jn) (ja : Option Addr) (jc : Nat) (w : World) {F G : Nat → Prop} (hs : Sl tJn w F a l) (hl : l.length ≤ maxLen) (hj : Sl tLn w G ja j.lines) {p : Int} (h : postJ l j = p) :
    Calls Try.prog 45 #[.slice a l.length cap, jnv j ja jc] w fun e w' => e = .returned (.int .i64 p) ∧ Below w.heap.size w w' := by
  have := rpost_any l a cap j ja jc w hs hl hj
  rwa [h] at this

set_option maxHeartbeats 4000000 in
set_option maxRecDepth 100000 in
theorem fit_any (l : List Jn) (a : Option Addr) (cap : Nat) (m : Nat) (w : World) {F : Nat → Prop} (hs : Sl tJn w F a l) (hl : l.length ≤ maxLen) (hm : m ≤ 10000) :
    Calls Try.prog 30 #[.slice a l.length cap, .int .i64 m] w fun e w' => ∃ v, e = .returned v ∧ OwnL tJn w' w.heap.size v (fitJ m l) ∧ Below w.heap.size w w' := by
  have HS := Lib.hid hs
  have hl' : l.length ≤ 9223372036854775807 := by unfold maxLen at hl; omega
  clear hs hl
  go_enter Try.func30, Try.ntmps30
  go_wp2_with fail
  go_loopw [5, 6] (fun vo vi wr => ∃ (n : Nat) (vx : Value), vx = vo ∧ n ≤ l.length ∧ vi = .int .i64 n ∧ OwnL tJn wr w.heap.size vx (fitJ m (l.take n)) ∧ Below w.heap.size w wr) (fun _ vi _ => l.length - (intOf vi).toNat)
  case atStart => exact ⟨0, _, rfl, Nat.zero_le _, rfl, OwnL.nil _ _, Below.refl _ _⟩
  case round =>
    obtain ⟨n, vo, rfl, hn, rfl, ho, hb⟩ := hrel
    have HB1 := Lib.hid hb
    generalize hO : fitJ m (l.take n) = O at ho
    have HO := Lib.hid ho
    have HOE := Lib.hid hO
    have hlen : O.length ≤ m := by rw [← hO]; exact fitJ_len m _ _ (Nat.zero_le _)
    obtain ⟨oa, oc, rfl, _, _, hos⟩ := ho.slice
    have HOS := Lib.hid hos
    clear ho hb hO hos
    by_cases hlt : n < l.length
    · by_cases hfull : O.length < m
      · obtain ⟨ad, la, lc, rfl, _, hadl, hc0, hc1, hc2, hc3, hc4, hc5, hr⟩ := jn_at (Sl.keep (fun k hk _ => HB1.out.block k hk) HS.out) n hlt
        have HR := Lib.hid hr
        clear hr
        by_cases h8 : (l[n].lines.length : Int) ≤ 8
        · generalize hp : postJ O l[n] = p
          have HP := Lib.hid hp
          clear hp
          go_wp2_with fail
          refine (rpost_is O oa oc l[n] la lc _ HOS.out (by unfold maxLen; omega) (jcs_inv HR.out).2.2.2.2.1 HP.out).mono ?_
          rintro e w2 ⟨rfl, hb⟩
          have HB2 := Lib.hid (belows_then HB1.out HB1.out.size hb)
          have HO2 := Lib.hid (OwnL.below HO.out hb)
          have HOS2 : Hid (Sl tJn w2 (fun _ => True) oa O) := Sl.keep (fun k hk _ => hb.block k hk) HOS.out
          clear hb hc0 hc1 hc2 hc3 hc4 hc5 hadl
          by_cases hp0 : p = 0
          · subst hp0
            obtain ⟨ad2, la2, lc2, hade, _, hadl, hc0, hc1, hc2, hc3, hc4, hc5, hr⟩ := jn_at (Sl.keep (fun k hk _ => HB2.out.block k hk) HS.out) n hlt
            injection hade with hade
            subst hade
            have HR2 := Lib.hid hr
            clear hr
            go_wp2_with fail
            refine (rput_any O oa oc l[n] la2 lc2 _ HOS2.out (by omega) HR2.out (post_ok_lines HP.out)).mono ?_
            rintro e w3 ⟨v3, rfl, ho3, hb3⟩
            have HB3 := Lib.hid (belows_then HB2.out HB2.out.size hb3)
            have HO3 := Lib.hid (ho3.mono HB2.out.size)
            have HN : Hid (fitJ m (l.take (n + 1)) = putJ O l[n]) := by show _ = _; rw [fitJ_succ m l n hlt, HOE.out]; simp [fitStep, hfull, h8, HP.out]
            clear ho3 hb3 hc0 hc1 hc2 hc3 hc4 hc5 hadl
            go_wp2_with fail
            go_roundw
            case rel => exact ⟨n + 1, _, rfl, by omega, by go_num, by rw [HN.out]; exact HO3.out, HB3.out⟩
            case measure => simp [intOf]; omega
          · have hp1 : (p == 0) = false := by simpa using hp0
            have HN : Hid (fitJ m (l.take (n + 1)) = O) := by show _ = _; rw [fitJ_succ m l n hlt, HOE.out]; simp [fitStep, hfull, h8, HP.out, hp0]
            go_wp2_with fail
            go_roundw
            case rel => exact ⟨n + 1, _, rfl, by omega, by go_num, by rw [HN.out]; exact HO2.out, HB2.out⟩
            case measure => simp [intOf]; omega
        · have HN : Hid (fitJ m (l.take (n + 1)) = O) := by show _ = _; rw [fitJ_succ m l n hlt, HOE.out]; simp [fitStep, hfull, h8]
          go_wp2_with fail
          go_roundw
          case rel => exact ⟨n + 1, _, rfl, by omega, by go_num, by rw [HN.out]; exact HO.out, HB1.out⟩
          case measure => simp [intOf]; omega
      · have HN : Hid (fitJ m l = O) := by show _ = _; rw [fitJ_full m l n (by rw [HOE.out]; exact hfull), HOE.out]
        go_wp2_with fail
        go_ret
        refine ⟨_, rfl, ?_, HB1.out⟩
        rw [HN.out]
        exact HO.out
    · have HN : Hid (fitJ m l = O) := by show _ = _; rw [← HOE.out, take_all hn hlt]
      go_wp2_with fail
      go_ret
      refine ⟨_, rfl, ?_, HB1.out⟩
      rw [HN.out]
      exact HO.out
end Go.Proofs.Ytfbbjlhhkfdncaa
