/- variorumbook: copies of balances, lent ones, whether they stay. -/
import Derived.Test.YtfbbjlhhkfdncaaTf
import Derived.Test.YtfbbjlhhkfdncaaOf
import Derived.Laws.AppendOwnNone
set_option linter.unusedVariables false
set_option linter.unusedSimpArgs false
namespace Go.Proofs.Ytfbbjlhhkfdncaa
open Go.RowKit Go.Maps

theorem OwnL.form {P : Program} {e : TypeId} {α : Type} {T : Ty P e α} {w : World} {base : Nat} {v : Value} {xs : List α} (h : OwnL T w base v xs) :
    (v = .slice none 0 0 ∧ xs = []) ∨ ∃ g cap, v = .slice (some ⟨g, 0, none⟩) xs.length cap ∧ xs.length ≤ cap ∧ cap ≤ maxLen := h.ownF.form
theorem form_snoc {P : Program} {e : TypeId} {α : Type} {T : Ty P e α} {w : World} {base : Nat} {v : Value} {xs : List α} {x : α} (h : OwnL T w base v (xs ++ [x])) : ∃ g c, v = .slice (some ⟨g, 0, none⟩) (xs.length + 1) c ∧ xs.length + 1 ≤ c ∧ c ≤ maxLen := by
  rcases h.form with ⟨_, h⟩ | ⟨g, c, h1, h2, h3⟩
  · simp at h
  · rw [List.length_append] at h1 h2
    exact ⟨g, c, h1, h2, h3⟩
theorem Sl.left {P : Program} {e : TypeId} {α : Type} {T : Ty P e α} {w : World} {F : Nat → Prop} {a : Option Addr} {xs ys : List α} (h : Sl T w F a (xs ++ ys)) : Sl T w F a xs := by
  intro i x hx
  exact h i x (by rw [List.getElem?_append_left (List.getElem?_eq_some_iff.1 hx).1]; exact hx)

set_option maxHeartbeats 2000000 in
set_option maxRecDepth 100000 in
theorem cpBal_any {w : World} {base : Nat} {v : Value} {l : List (Int × Int)} (h : OwnL tBal w base v l) (hl : l.length ≤ 100000) :
    Calls Try.prog 53 #[v] w fun e w' => ∃ v', e = .returned v' ∧ OwnL tBal w' w.heap.size v' l ∧ Below w.heap.size w w' := by
  obtain ⟨i0, hi, hz0, hz1, hz2⟩ := info_parts infoBal
  have hf := h.form
  obtain ⟨a, cap, rfl, _, _, hs⟩ := h.slice
  have HS : Hid (Sl tBal w (fun k => some k ≠ (Value.slice none 0 0).ownBlock ∧ k < w.heap.size) a l) := Lib.hid (fun i x hx => by
    obtain ⟨ad, ces, ha, _, hlt, hc, hr⟩ := hs i x hx
    exact ⟨ad, ces, ha, ⟨by simp [Value.ownBlock], hlt⟩, hlt, hc, bal_free _ _ _ _ _ hr⟩)
  have h63 : ([] : List (Int × Int)).length + l.length ≤ maxLen := by simp only [List.length_nil]; unfold maxLen; omega
  have hby : (([] : List (Int × Int)).length + l.length) * 16 ≤ 140737488355328 := by simp only [List.length_nil]; omega
  clear h hs
  rcases hf with ⟨hv, rfl⟩ | ⟨g, c, hv, _⟩
  · injection hv with h1 _ h3
    subst h1
    subst h3
    have HN := Lib.hid (World.ownsRow_nil w w.heap.size 52 2)
    go_enter Try.func53, Try.ntmps53
    go_wp2_with (at_builtin; refine wpList_append_own_none rfl _ _ 50 rfl w.heap.size 52 i0 2 Try.underlying50 hi (.slice none 0 0) 0 [] rfl HN.out rfl ?_)
    go_ret
    exact ⟨_, rfl, OwnL.nil _ _, Below.refl _ _⟩
  · injection hv with h1 _ h3
    subst h1
    subst h3
    go_enter Try.func53, Try.ntmps53
    go_wp2_with (at_builtin; refine wp_app (T := tBal) rfl _ _ 50 rfl i0 (.agg #[.int .i64 0, .int .i64 0]) 16 Try.underlying50 hi hz0 hz1 hz2 rfl (by decide) bal_one w.heap.size (.slice none 0 0) [] rfl (OwnL.nil _ _) ⟨g, 0, none⟩ cap l rfl HS.out h63 hby (Nat.le_refl _) ?_; intro v' w' hown hg hnil hat; have HB := Lib.hid (Below.grown (Below.refl w.heap.size w) hg (Nat.le_refl _) (fun k e => by simp [Value.ownBlock] at e)); have HO := Lib.hid hown; clear hown hg hnil hat)
    go_ret
    exact ⟨v', rfl, by simpa using HO.out, HB.out⟩

/-- a list with room behind it, in which a mark stands -/
def LentB (w : World) (base : Nat) (v : Value) (l : List (Int × Int)) : Prop := ∃ g cap, v = .slice (some ⟨g, 0, none⟩) l.length cap ∧ l.length + 1 ≤ cap ∧ cap ≤ maxLen ∧ OwnL tBal w base (.slice (some ⟨g, 0, none⟩) (l.length + 1) cap) (l ++ [(77, 0)])
theorem LentB.below {w w' : World} {base : Nat} {v : Value} {l : List (Int × Int)} (h : LentB w base v l) (hb : Below w.heap.size w w') : LentB w' base v l := by
  obtain ⟨g, cap, h1, h2, h3, h4⟩ := h
  exact ⟨g, cap, h1, h2, h3, h4.below hb⟩

set_option maxHeartbeats 4000000 in
set_option maxRecDepth 100000 in
theorem lentBal_any {w : World} {base : Nat} {v : Value} {l : List (Int × Int)} (h : OwnL tBal w base v l) (hl : l.length ≤ 100000) :
    Calls Try.prog 24 #[v] w fun e w' => ∃ v', e = .returned v' ∧ LentB w' w.heap.size v' l ∧ Below w.heap.size w w' := by
  obtain ⟨i0, hi, hz0, hz1, hz2⟩ := info_parts infoBal
  have HC := Lib.hid (cpBal_any h hl)
  obtain ⟨a, cap, rfl, _, _, _⟩ := h.slice
  have hl' : l.length ≤ 9223372036854775807 := by omega
  have h63 : l.length + [((77, 0) : Int × Int)].length ≤ maxLen := by simp only [List.length_cons, List.length_nil]; unfold maxLen; omega
  have hby : (l.length + [((77, 0) : Int × Int)].length) * 16 ≤ 140737488355328 := by simp only [List.length_cons, List.length_nil]; omega
  clear h
  go_enter Try.func24, Try.ntmps24
  go_wp2_with fail
  refine HC.out.mono ?_
  rintro en w1 ⟨v1, rfl, ho, hb⟩
  have HB := Lib.hid hb
  have HOA := Lib.hid (ho.alloc (.cells #[.int .i64 77, .int .i64 0] 52))
  have HBA := Lib.hid (hb.alloc hb.size (.cells #[.int .i64 77, .int .i64 0] 52))
  have HSL : Hid (Sl tBal (w1.alloc (.cells #[.int .i64 77, .int .i64 0] 52)) (fun k => some k ≠ v1.ownBlock ∧ k < (w1.alloc (.cells #[.int .i64 77, .int .i64 0] 52)).heap.size) (some ⟨w1.heap.size, 0, none⟩) [(77, 0)]) :=
    Lib.hid (sl_one2 tBal (x := (77, 0)) rfl (blk_new w1 _) ⟨fun e => by have := (ho.lt _ e.symm).2; omega, by simp⟩ (bal_mk (77, 0) (by decide) (by decide)))
  clear ho hb
  go_wp2_with (at_builtin; refine wp_app (T := tBal) rfl _ _ 50 rfl i0 (.agg #[.int .i64 0, .int .i64 0]) 16 Try.underlying50 hi hz0 hz1 hz2 rfl (by decide) bal_one w.heap.size v1 l rfl HOA.out ⟨w1.heap.size, 0, none⟩ 1 [(77, 0)] rfl HSL.out h63 hby HBA.out.size ?_; intro v2 w2 hown hg hnil hat; have HB2 := Lib.hid (Below.grown HBA.out hg HBA.out.size (fun k e => (HOA.out.lt k e).1)); have HO := Lib.hid hown; obtain ⟨g2, c2, rfl, hle2, hcm2⟩ := form_snoc hown; have hc63 : c2 ≤ 9223372036854775807 := (by unfold maxLen at hcm2; omega); clear hown hg hnil hat)
  go_ret
  exact ⟨_, rfl, ⟨g2, c2, rfl, hle2, hcm2, HO.out⟩, HB2.out⟩

theorem sameBal_is (l m : List (Int × Int)) (a b : Option Addr) (ca cb : Nat) (w : World) {F G : Nat → Prop} (hs : Sl tBal w F a l) (ht : Sl tBal w G b m) (hl : l.length ≤ maxLen) (hm : m.length ≤ maxLen) (h : l = m) :
    Calls Try.prog 21 #[.slice a l.length ca, .slice b m.length cb] w fun e w' => e = .returned (.bool true) ∧ Below w.heap.size w w' := sameBal_any l m a b ca cb w hs ht hl hm (by simpa using h)

set_option maxHeartbeats 4000000 in
set_option maxRecDepth 100000 in
theorem staysBal_any {w : World} {base : Nat} {v : Value} {l : List (Int × Int)} (h : LentB w base v l) (b : Option Addr) (cb : Nat) {G : Nat → Prop} (ht : Sl tBal w G b l) :
    Calls Try.prog 27 #[v, .slice b l.length cb] w fun e w' => e = .returned (.bool true) ∧ Below w.heap.size w w' := by
  obtain ⟨g, cap, rfl, h1, h2, ho⟩ := h
  have HO := Lib.hid ho
  have hsl : Sl tBal w (fun _ => True) (some ⟨g, 0, none⟩) (l ++ [(77, 0)]) := by
    obtain ⟨a', c', he, _, _, hs⟩ := ho.slice
    injection he with he
    subst he
    exact hs
  have hlm : l.length ≤ maxLen := by omega
  have HC := Lib.hid (sameBal_is l l (some ⟨g, 0, none⟩) b cap cb w hsl.left ht hlm hlm rfl)
  have hl' : l.length + 1 ≤ 9223372036854775807 := by unfold maxLen at h2; omega
  obtain ⟨ad, hade, _, hadl, hc0, _, _, _⟩ := bal_at hsl l.length (by simp)
  injection hade with hade
  subst hade
  have hz0 : ∀ i, (⟨g, 0, none⟩ : Addr).add i = ⟨g, i, none⟩ := by
    intro i
    unfold Addr.add
    split <;> simp_all
  have hc : w.cell? ⟨g, l.length * 2, none⟩ = some (.int .i64 77) := by rw [hz0] at hc0; simpa using hc0
  have HCC := Lib.hid hc
  have hgl : g < w.heap.size := by simpa [Addr.add] using hadl
  clear ho hsl hc0 hadl hc
  go_enter Try.func27, Try.ntmps27
  go_wp2_with fail
  refine HC.out.mono ?_
  rintro en w1 ⟨rfl, hb⟩
  have hc1 : w1.cell? ⟨g, l.length * 2, none⟩ = some (.int .i64 77) := (hb.cell (p := ⟨g, l.length * 2, none⟩) hgl).trans HCC.out
  have HB := Lib.hid hb
  clear hb
  go_wp2_with fail
  go_ret
  exact ⟨rfl, HB.out⟩
end Go.Proofs.Ytfbbjlhhkfdncaa
