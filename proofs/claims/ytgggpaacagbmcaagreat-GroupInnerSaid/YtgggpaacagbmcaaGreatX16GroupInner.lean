/- variorumbook: SameBalances, SamePairs. -/
import Derived.Test.YtgggpaacagbmcaaGreatX14GroupInner
import Derived.Test.YtgggpaacagbmcaaGreatX08GroupInner
import Derived.Laws.AppendOwnNone
set_option linter.unusedVariables false
set_option linter.unusedSimpArgs false
namespace Go.Proofs.YtgggpaacagbmcaaGreat
open Go.RowKit Go.Maps

theorem take_eq_succ {α : Type} {a b : List α} {n : Nat} (h : a.take n = b.take n) (h1 : n < a.length) (h2 : n < b.length) (he : a[n] = b[n]) : a.take (n + 1) = b.take (n + 1) := by
  rw [List.take_succ_eq_append_getElem h1, List.take_succ_eq_append_getElem h2, h, he]
theorem ne_at {α : Type} {a b : List α} {n : Nat} (h1 : n < a.length) (h2 : n < b.length) (he : a[n] ≠ b[n]) : a ≠ b := by
  rintro rfl
  exact he rfl

set_option maxHeartbeats 4000000 in
set_option maxRecDepth 100000 in
theorem sameBal_any (l m : List (Int × Int)) (a b : Option Addr) (ca cb : Nat) (w : World) {F G : Nat → Prop} (hs : Sl tBal w F a l) (ht : Sl tBal w G b m) (hl : l.length ≤ maxLen) (hm : m.length ≤ maxLen) {r : Bool} (hr : decide (l = m) = r) :
    Calls Tryz.prog 16 #[.slice a l.length ca, .slice b m.length cb] w fun e w' => e = .returned (.bool r) ∧ Below w.heap.size w w' := by
  have HS := Lib.hid hs
  have HT := Lib.hid ht
  have HR := Lib.hid hr
  have hl' : l.length ≤ 9223372036854775807 := by unfold maxLen at hl; omega
  have hm' : m.length ≤ 9223372036854775807 := by unfold maxLen at hm; omega
  clear hs ht hl hm hr
  by_cases hlen : l.length = m.length
  · have hle : l.length ≤ m.length := by omega
    have hge : m.length ≤ l.length := by omega
    have hq : ((l.length : Int) != (m.length : Int)) = false := by simp [hlen]
    have HLEN := Lib.hid hlen
    clear hlen
    go_enter Tryz.func16, Tryz.ntmps16
    go_wp2_with fail
    go_loopw [5] (fun vi wr => ∃ n : Nat, n ≤ l.length ∧ vi = .int .i64 n ∧ Hid (l.take n = m.take n) ∧ Below w.heap.size w wr) (fun vi _ => l.length - (Go.RowKit.intOf vi).toNat)
    case atStart => exact ⟨0, Nat.zero_le _, rfl, Lib.hid rfl, Below.refl _ _⟩
    case round =>
      obtain ⟨n, hn, rfl, htk, hb⟩ := hrel
      have HB := Lib.hid hb
      clear hb
      by_cases hlt : n < l.length
      · have hlt2 : n < m.length := by omega
        obtain ⟨ad, rfl, _, hadl, hc0, hc1, _, _⟩ := bal_at (Sl.keep (fun k hk _ => HB.out.block k hk) HS.out) n hlt
        obtain ⟨bd, rfl, _, hbdl, hd0, hd1, _, _⟩ := bal_at (Sl.keep (fun k hk _ => HB.out.block k hk) HT.out) n hlt2
        have HEQ : Hid (l[n] = m[n] → l.take (n + 1) = m.take (n + 1)) := Lib.hid (fun h => take_eq_succ htk.out hlt hlt2 h)
        have HNE : Hid (l[n] ≠ m[n] → r = false) := Lib.hid (fun h => by rw [← HR.out]; simpa using ne_at hlt hlt2 h)
        generalize l[n] = x at *
        generalize m[n] = y at *
        obtain ⟨x1, x2⟩ := x
        obtain ⟨y1, y2⟩ := y
        simp only at hc0 hc1 hd0 hd1
        skip
        by_cases he1 : x1 = y1
        · by_cases he2 : x2 = y2
          · subst he1
            subst he2
            have HN := Lib.hid (HEQ.out rfl)
            have h1 : (x1 == x1) = true := by simp
            have h2 : (x2 == x2) = true := by simp
            go_wp2_with fail
            go_quiet (fail)
            go_wp2_with fail
            go_roundw
            case rel => exact ⟨n + 1, by omega, by go_num, HN, below_drewN HB.out _⟩
            case measure => simp [Go.RowKit.intOf]; omega
          · have HF := Lib.hid (HNE.out (by simp [he2]))
            have h1 : (x1 == y1) = true := by simpa using he1
            have h2 : (x2 == y2) = false := by simpa using he2
            clear he1 he2
            go_wp2_with fail
            go_quiet (fail)
            go_wp2_with fail
            go_ret
            rw [HF.out]
            exact ⟨rfl, below_drewN HB.out _⟩
        · have HF := Lib.hid (HNE.out (by simp [he1]))
          have h1 : (x1 == y1) = false := by simpa using he1
          clear he1
          go_wp2_with fail
          go_quiet (fail)
          go_wp2_with fail
          go_ret
          rw [HF.out]
          exact ⟨rfl, below_drewN HB.out _⟩
      · have hnn : n = l.length := by omega
        have HF : Hid (r = true) := Lib.hid (by
          rw [← HR.out]
          have := htk.out
          rw [hnn, List.take_length, HLEN.out, List.take_length] at this
          simpa using this)
        clear hnn
        go_wp2_with fail
        go_ret
        rw [HF.out]
        exact ⟨rfl, HB.out⟩
  · have hq : ((l.length : Int) != (m.length : Int)) = true := by simp; omega
    have HF : Hid (r = false) := Lib.hid (by rw [← HR.out]; simp; intro h; exact hlen (by rw [h]))
    clear hlen
    go_enter Tryz.func16, Tryz.ntmps16
    go_wp2_with fail
    go_ret
    rw [HF.out]
    exact ⟨rfl, Below.refl _ _⟩
set_option maxHeartbeats 4000000 in
set_option maxRecDepth 100000 in
theorem samePair_any (l m : List (Int × Int)) (a b : Option Addr) (ca cb : Nat) (w : World) {F G : Nat → Prop} (hs : Sl tPair w F a l) (ht : Sl tPair w G b m) (hl : l.length ≤ maxLen) (hm : m.length ≤ maxLen) {r : Bool} (hr : decide (l = m) = r) :
    Calls Tryz.prog 110 #[.slice a l.length ca, .slice b m.length cb] w fun e w' => e = .returned (.bool r) ∧ Below w.heap.size w w' := by
  have HS := Lib.hid hs
  have HT := Lib.hid ht
  have HR := Lib.hid hr
  have hl' : l.length ≤ 9223372036854775807 := by unfold maxLen at hl; omega
  have hm' : m.length ≤ 9223372036854775807 := by unfold maxLen at hm; omega
  clear hs ht hl hm hr
  by_cases hlen : l.length = m.length
  · have hle : l.length ≤ m.length := by omega
    have hge : m.length ≤ l.length := by omega
    have hq : ((l.length : Int) != (m.length : Int)) = false := by simp [hlen]
    have HLEN := Lib.hid hlen
    clear hlen
    go_enter Tryz.func110, Tryz.ntmps110
    go_wp2_with fail
    go_loopw [5] (fun vi wr => ∃ n : Nat, n ≤ l.length ∧ vi = .int .i64 n ∧ Hid (l.take n = m.take n) ∧ Below w.heap.size w wr) (fun vi _ => l.length - (Go.RowKit.intOf vi).toNat)
    case atStart => exact ⟨0, Nat.zero_le _, rfl, Lib.hid rfl, Below.refl _ _⟩
    case round =>
      obtain ⟨n, hn, rfl, htk, hb⟩ := hrel
      have HB := Lib.hid hb
      clear hb
      by_cases hlt : n < l.length
      · have hlt2 : n < m.length := by omega
        obtain ⟨ad, rfl, _, hadl, hc0, hc1, _, _⟩ := pair_at (Sl.keep (fun k hk _ => HB.out.block k hk) HS.out) n hlt
        obtain ⟨bd, rfl, _, hbdl, hd0, hd1, _, _⟩ := pair_at (Sl.keep (fun k hk _ => HB.out.block k hk) HT.out) n hlt2
        have HEQ : Hid (l[n] = m[n] → l.take (n + 1) = m.take (n + 1)) := Lib.hid (fun h => take_eq_succ htk.out hlt hlt2 h)
        have HNE : Hid (l[n] ≠ m[n] → r = false) := Lib.hid (fun h => by rw [← HR.out]; simpa using ne_at hlt hlt2 h)
        generalize l[n] = x at *
        generalize m[n] = y at *
        obtain ⟨x1, x2⟩ := x
        obtain ⟨y1, y2⟩ := y
        simp only at hc0 hc1 hd0 hd1
        have heq := fun W => eq_pair x1 x2 y1 y2 W
        by_cases he1 : x1 = y1
        · by_cases he2 : x2 = y2
          · subst he1
            subst he2
            have HN := Lib.hid (HEQ.out rfl)
            have h1 : (x1 == x1) = true := by simp
            have h2 : (x2 == x2) = true := by simp
            go_wp2_with fail
            go_quiet (fail)
            go_wp2_with fail
            go_roundw
            case rel => exact ⟨n + 1, by omega, by go_num, HN, below_drewN HB.out _⟩
            case measure => simp [Go.RowKit.intOf]; omega
          · have HF := Lib.hid (HNE.out (by simp [he2]))
            have h1 : (x1 == y1) = true := by simpa using he1
            have h2 : (x2 == y2) = false := by simpa using he2
            clear he1 he2
            go_wp2_with fail
            go_quiet (fail)
            go_wp2_with fail
            go_ret
            rw [HF.out]
            exact ⟨rfl, below_drewN HB.out _⟩
        · have HF := Lib.hid (HNE.out (by simp [he1]))
          have h1 : (x1 == y1) = false := by simpa using he1
          clear he1
          go_wp2_with fail
          go_quiet (fail)
          go_wp2_with fail
          go_ret
          rw [HF.out]
          exact ⟨rfl, below_drewN HB.out _⟩
      · have hnn : n = l.length := by omega
        have HF : Hid (r = true) := Lib.hid (by
          rw [← HR.out]
          have := htk.out
          rw [hnn, List.take_length, HLEN.out, List.take_length] at this
          simpa using this)
        clear hnn
        go_wp2_with fail
        go_ret
        rw [HF.out]
        exact ⟨rfl, HB.out⟩
  · have hq : ((l.length : Int) != (m.length : Int)) = true := by simp; omega
    have HF : Hid (r = false) := Lib.hid (by rw [← HR.out]; simp; intro h; exact hlen (by rw [h]))
    clear hlen
    go_enter Tryz.func110, Tryz.ntmps110
    go_wp2_with fail
    go_ret
    rw [HF.out]
    exact ⟨rfl, Below.refl _ _⟩
end Go.Proofs.YtgggpaacagbmcaaGreat


/- variorumbook: copies of balances, lent ones, whether they stay. -/
set_option linter.unusedVariables false
set_option linter.unusedSimpArgs false
namespace Go.Proofs.YtgggpaacagbmcaaGreat
open Go.RowKit Go.Maps

theorem OwnL.form {P : Program} {e : TypeId} {α : Type} {T : Ty P e α} {w : World} {base : Nat} {v : Value} {xs : List α} (h : OwnL T w base v xs) :
    (v = .slice none 0 0 ∧ xs = []) ∨ ∃ g cap, v = .slice (some ⟨g, 0, none⟩) xs.length cap ∧ xs.length ≤ cap ∧ cap ≤ maxLen := h.ownF.form
theorem form_snoc {P : Program} {e : TypeId} {α : Type} {T : Ty P e α} {w : World} {base : Nat} {v : Value} {xs : List α} {x : α} (h : OwnL T w base v (xs ++ [x])) : ∃ g c, v = .slice (some ⟨g, 0, none⟩) (xs.length + 1) c ∧ xs.length + 1 ≤ c ∧ c ≤ maxLen := by
  rcases h.form with ⟨_, h⟩ | ⟨g, c, h1, h2, h3⟩
  · simp at h
  · rw [List.length_append] at h1 h2
    exact ⟨g, c, h1, h2, h3⟩
theorem Sl.left {P : Program} {e : TypeId} {α : Type} {T : Ty P e α} {w : World} {F : Nat → Prop} {a : Option Addr} {xs ys : List α} (h : Sl T w F a (xs ++ ys)) : Sl T w F a xs := by
  intro i x hx
  exact h i x (by rw [List.getElem?_append_left (List.getElem?_eq_some_iff.1 hx).1]; exact hx)

set_option maxHeartbeats 2000000 in
set_option maxRecDepth 100000 in
theorem cpBal_any {w : World} {base : Nat} {v : Value} {l : List (Int × Int)} (h : OwnL tBal w base v l) (hl : l.length ≤ 100000) :
    Calls Tryz.prog 31 #[v] w fun e w' => ∃ v', e = .returned v' ∧ OwnL tBal w' w.heap.size v' l ∧ Below w.heap.size w w' := by
  obtain ⟨i0, hi, hz0, hz1, hz2⟩ := info_parts infoBal
  have hf := h.form
  obtain ⟨a, cap, rfl, _, _, hs⟩ := h.slice
  have HS : Hid (Sl tBal w (fun k => some k ≠ (Value.slice none 0 0).ownBlock ∧ k < w.heap.size) a l) := Lib.hid (fun i x hx => by
    obtain ⟨ad, ces, ha, _, hlt, hc, hr⟩ := hs i x hx
    exact ⟨ad, ces, ha, ⟨by simp [Value.ownBlock], hlt⟩, hlt, hc, bal_free _ _ _ _ _ hr⟩)
  have h63 : ([] : List (Int × Int)).length + l.length ≤ maxLen := by simp only [List.length_nil]; unfold maxLen; omega
  have hby : (([] : List (Int × Int)).length + l.length) * 16 ≤ 140737488355328 := by simp only [List.length_nil]; omega
  clear h hs
  rcases hf with ⟨hv, rfl⟩ | ⟨g, c, hv, _⟩
  · injection hv with h1 _ h3
    subst h1
    subst h3
    have HN := Lib.hid (World.ownsRow_nil w w.heap.size 62 2)
    go_enter Tryz.func31, Tryz.ntmps31
    go_wp2_with (at_builtin; refine wpList_append_own_none rfl _ _ 49 rfl w.heap.size 62 i0 2 Tryz.underlying49 hi (.slice none 0 0) 0 [] rfl HN.out rfl ?_)
    go_ret
    exact ⟨_, rfl, OwnL.nil _ _, Below.refl _ _⟩
  · injection hv with h1 _ h3
    subst h1
    subst h3
    go_enter Tryz.func31, Tryz.ntmps31
    go_wp2_with (at_builtin; refine wp_app (T := tBal) rfl _ _ 49 rfl i0 (.agg #[.int .i64 0, .int .i64 0]) 16 Tryz.underlying49 hi hz0 hz1 hz2 rfl (by decide) bal_one w.heap.size (.slice none 0 0) [] rfl (OwnL.nil _ _) ⟨g, 0, none⟩ cap l rfl HS.out h63 hby (Nat.le_refl _) ?_; intro v' w' hown hg hnil hat; have HB := Lib.hid (Below.grown (Below.refl w.heap.size w) hg (Nat.le_refl _) (fun k e => by simp [Value.ownBlock] at e)); have HO := Lib.hid hown; clear hown hg hnil hat)
    go_ret
    exact ⟨v', rfl, by simpa using HO.out, HB.out⟩

/-- a list with room behind it, in which a mark stands -/
def LentB (w : World) (base : Nat) (v : Value) (l : List (Int × Int)) : Prop := ∃ g cap, v = .slice (some ⟨g, 0, none⟩) l.length cap ∧ l.length + 1 ≤ cap ∧ cap ≤ maxLen ∧ OwnL tBal w base (.slice (some ⟨g, 0, none⟩) (l.length + 1) cap) (l ++ [(77, 0)])
theorem LentB.below {w w' : World} {base : Nat} {v : Value} {l : List (Int × Int)} (h : LentB w base v l) (hb : Below w.heap.size w w') : LentB w' base v l := by
  obtain ⟨g, cap, h1, h2, h3, h4⟩ := h
  exact ⟨g, cap, h1, h2, h3, h4.below hb⟩

theorem sameBal_is (l m : List (Int × Int)) (a b : Option Addr) (ca cb : Nat) (w : World) {F G : Nat → Prop} (hs : Sl tBal w F a l) (ht : Sl tBal w G b m) (hl : l.length ≤ maxLen) (hm : m.length ≤ maxLen) (h : l = m) :
    Calls Tryz.prog 16 #[.slice a l.length ca, .slice b m.length cb] w fun e w' => e = .returned (.bool true) ∧ Below w.heap.size w w' := sameBal_any l m a b ca cb w hs ht hl hm (by simpa using h)

end Go.Proofs.YtgggpaacagbmcaaGreat
