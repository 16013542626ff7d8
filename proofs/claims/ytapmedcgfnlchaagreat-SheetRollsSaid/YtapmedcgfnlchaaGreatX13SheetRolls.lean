/- book: ahead, holds. -/
import Derived.Test.YtapmedcgfnlchaaGreatX12SheetRolls
import Derived.Deep.RegionWith
set_option linter.unusedVariables false
set_option linter.unusedSimpArgs false
namespace Go.Proofs.YtapmedcgfnlchaaGreat
open Go.RowKit Go.Maps

set_option maxHeartbeats 1000000 in
theorem ahead_any (j : Jn) (a : Option Addr) (cap : Nat) (id : Int) (w : World) (h1 : 0 ≤ j.id) (h2 : j.id ≤ 1000000) (h3 : 0 ≤ id) (h4 : id ≤ 1000000) :
    Calls Tryz.prog 75 #[jnv j a cap, .int .i64 id] w fun e w' => e = .returned (.int .i64 (j.id - id)) ∧ Below w.heap.size w w' := by
  obtain ⟨jid, en, pe, ref, lines, void⟩ := j
  simp only at h1 h2
  go_enter Tryz.func75, Tryz.ntmps75
  go_wp2_with fail
  go_ret
  refine ⟨?_, (Below.refl _ _).alloc (Nat.le_refl _) _⟩
  first
  | rfl
  | go_num

theorem holds_cases {h x : Jn} {b : Bool} (hc : clash h x = b) : (b = false ∧ (x.void = true ∨ x.void = false ∧ ((x.id != h.id) = false ∨ (x.id != h.id) = true ∧ ((x.en == h.en) = false ∨ (x.en == h.en) = true ∧ (x.ref.toList == h.ref.toList) = false)))) ∨
    (b = true ∧ x.void = false ∧ (x.id != h.id) = true ∧ (x.en == h.en) = true ∧ (x.ref.toList == h.ref.toList) = true) := by
  subst hc
  unfold clash
  cases x.id != h.id <;> cases x.void <;> cases x.ref.toList == h.ref.toList <;> cases x.en == h.en <;> simp

set_option maxHeartbeats 2000000 in
theorem holds_any (h x : Jn) (ha xa : Option Addr) (hc xc : Nat) (w : World) :
    Calls Tryz.prog 77 #[jnv h ha hc, jnv x xa xc] w fun e w' => e = .returned (.bool (clash h x)) ∧ Below w.heap.size w w' := by
  generalize hb : clash h x = b
  have hcs := holds_cases hb
  clear hb
  obtain ⟨i1, i2, i3, i4, i5, i6⟩ := h
  obtain ⟨x1, x2, x3, x4, x5, x6⟩ := x
  simp only at hcs
  rcases hcs with ⟨rfl, rfl | ⟨rfl, h2 | ⟨h2, h3 | ⟨h3, h4⟩⟩⟩⟩ | ⟨rfl, rfl, h2, h3, h4⟩
  all_goals
    go_enter Tryz.func77, Tryz.ntmps77
    go_wp2_with fail
    go_ret
    exact ⟨rfl, ((Below.refl _ _).alloc (Nat.le_refl _) _).alloc (by simp) _⟩
end Go.Proofs.YtapmedcgfnlchaaGreat


/- slices.IndexFunc, ContainsFunc at a holder's question. -/
set_option linter.unusedVariables false
set_option linter.unusedSimpArgs false
namespace Go.Proofs.YtapmedcgfnlchaaGreat
open Go.RowKit Go.Maps

theorem holds_is (h x : Jn) (ha xa : Option Addr) (hc xc : Nat) (w : World) {b : Bool} (hb : clash h x = b) :
    Calls Tryz.prog 77 #[jnv h ha hc, jnv x xa xc] w fun e w' => e = .returned (.bool b) ∧ Below w.heap.size w w' := by
  have := holds_any h x ha xa hc xc w
  rwa [hb] at this

def IdxPost (w : World) (b : Bool) (e : Ending) (w' : World) : Prop := (∃ k : Int, e = .returned (.int .i64 k) ∧ decide (0 ≤ k) = b) ∧ Below w.heap.size w w'
set_option maxHeartbeats 2000000 in
set_option maxRecDepth 100000 in
theorem indexJ_any (l : List Jn) (a : Option Addr) (cap : Nat) (h : Jn) (ha : Option Addr) (hc : Nat) (w : World) {F : Nat → Prop} (hs : Sl tJn w F a l) (hl : l.length ≤ maxLen) :
    Calls Tryz.prog 99 #[.slice a l.length cap, .func (.func 77) #[jnv h ha hc] #[]] w (IdxPost w (l.any (clash h))) := by
  have HS := Lib.hid hs
  have hl' : l.length ≤ 9223372036854775807 := by unfold maxLen at hl; omega
  clear hs hl
  generalize hres : l.any (clash h) = res
  have HR := Lib.hid hres
  clear hres
  go_enter Tryz.func99, Tryz.ntmps99
  go_wp2_with fail
  go_loopw [8] (fun vi wr => ∃ n : Nat, n ≤ l.length ∧ vi = .int .i64 n ∧ Hid ((l.take n).any (clash h) = false) ∧ Below w.heap.size w wr) (fun vi _ => l.length - (intOf vi).toNat)
  case atStart => exact ⟨0, Nat.zero_le _, rfl, rfl, Below.refl _ _⟩
  case round =>
    obtain ⟨n, hn, rfl, hany, hb⟩ := hrel
    have HB1 := Lib.hid hb
    clear hb
    by_cases hlt : n < l.length
    · obtain ⟨ad, la, lc, rfl, _, hadl, hc0, hc1, hc2, hc3, hc4, hc5, hr⟩ := jn_at (Sl.keep (fun k hk _ => HB1.out.block k hk) HS.out) n hlt
      clear hr
      go_wp2_with fail
      cases hv : clash h l[n]
      · refine (holds_is h l[n] ha la hc lc _ hv).mono ?_
        rintro e w2 ⟨rfl, hb⟩
        have HB2 := Lib.hid (belows_then HB1.out HB1.out.size hb)
        have HN := Lib.hid ((any_take_succ (clash h) l n hlt).trans (by rw [hany.out, hv]; try rfl))
        clear hb hc0 hc1 hc2 hc3 hc4 hc5 hadl hv
        go_wp2_with fail
        go_roundw
        case rel => exact ⟨n + 1, by omega, by go_num, HN.out, HB2.out⟩
        case measure => simp [intOf]; omega
      · refine (holds_is h l[n] ha la hc lc _ hv).mono ?_
        rintro e w2 ⟨rfl, hb⟩
        have HB2 := Lib.hid (belows_then HB1.out HB1.out.size hb)
        have hr : res = true := by rw [← HR.out]; exact any_at _ l n hlt hv
        have HRR := Lib.hid hr
        clear hb hc0 hc1 hc2 hc3 hc4 hc5 hadl hv hr
        go_wp2_with fail
        go_ret
        rw [HRR.out]
        exact ⟨⟨_, rfl, by simp⟩, HB2.out⟩
    · have hr : res = false := by
        rw [← HR.out]
        have := hany.out
        rwa [take_all hn hlt] at this
      have HRR := Lib.hid hr
      clear hr
      go_wp2_with fail
      go_ret
      rw [HRR.out]
      exact ⟨⟨_, rfl, by decide⟩, HB1.out⟩

set_option maxHeartbeats 2000000 in
theorem containsJ_any (l : List Jn) (a : Option Addr) (cap : Nat) (h : Jn) (ha : Option Addr) (hc : Nat) (w : World) {F : Nat → Prop} (hs : Sl tJn w F a l) (hl : l.length ≤ maxLen) :
    Calls Tryz.prog 76 #[.slice a l.length cap, .func (.func 77) #[jnv h ha hc] #[]] w fun e w' => e = .returned (.bool (l.any (clash h))) ∧ Below w.heap.size w w' := by
  have H := indexJ_any l a cap h ha hc w hs hl
  generalize l.any (clash h) = res at H ⊢
  have HH := Lib.hid H
  clear H hs hl
  go_enter Tryz.func76, Tryz.ntmps76
  go_wp2_with fail
  refine HH.out.mono ?_
  rintro e w' ⟨⟨k, rfl, hk⟩, hb⟩
  have HK := Lib.hid hk
  clear hk
  go_wp2_with fail
  go_ret
  rw [← HK.out]
  exact ⟨rfl, hb⟩
end Go.Proofs.YtapmedcgfnlchaaGreat


/- book: taken. -/
set_option linter.unusedVariables false
set_option linter.unusedSimpArgs false
namespace Go.Proofs.YtapmedcgfnlchaaGreat
open Go.RowKit Go.Maps

/-- a book behind a pointer: its field holds the list -/
structure BookAt (w : World) (b : Nat) (a : Option Addr) (cap : Nat) (l : List Jn) (F : Nat → Prop) : Prop where
  cell : w.heap[b]? = some (.cells #[.slice a l.length cap] 94 (0, 0))
  sl : Sl tJn w F a l
  len : l.length ≤ cap
  cap : cap ≤ maxLen
theorem BookAt.below {w w' : World} {b : Nat} {a : Option Addr} {cap : Nat} {l : List Jn} {F : Nat → Prop} (h : BookAt w b a cap l F) (hb : Below w.heap.size w w') : BookAt w' b a cap l F :=
  ⟨blk_below h.cell hb, Sl.keep (fun k hk _ => hb.block k hk) h.sl, h.len, h.cap⟩
theorem containsJ_is (l : List Jn) (a : Option Addr) (cap : Nat) (h : Jn) (ha : Option Addr) (hc : Nat) (w : World) {F : Nat → Prop} (hs : Sl tJn w F a l) (hl : l.length ≤ maxLen) {b : Bool} (hb : l.any (clash h) = b) :
    Calls Tryz.prog 76 #[.slice a l.length cap, .func (.func 77) #[jnv h ha hc] #[]] w fun e w' => e = .returned (.bool b) ∧ Below w.heap.size w w' := by
  have := containsJ_any l a cap h ha hc w hs hl
  rwa [hb] at this

set_option maxHeartbeats 4000000 in
set_option maxRecDepth 100000 in
theorem taken_any {w : World} {b : Nat} {a : Option Addr} {cap : Nat} {l : List Jn} {F : Nat → Prop} (h : BookAt w b a cap l F) (j : Jn) (ja : Option Addr) (jc : Nat) :
    Calls Tryz.prog 46 #[.pointer (some ⟨b, 0, none⟩), jnv j ja jc] w fun e w' => e = .returned (.bool (takenJ l j)) ∧ Below w.heap.size w w' := by
  have H := Lib.hid h
  have hbl := blk_lt h.cell
  clear h
  generalize hres : takenJ l j = res
  have HR := Lib.hid hres
  clear hres
  obtain ⟨id, en, pe, ref, lines, void⟩ := j
  have hact : (void = true ∨ void = false ∧ (ref.toList.isEmpty = true ∨ ref.toList.isEmpty = false)) := by
    cases ref.toList.isEmpty <;> cases void <;> simp
  have hcj := blk_cells (blk_new w (.cells #[.int .i64 id, .int .i64 en, .int .i64 pe, .string ref, .slice ja lines.length jc, .bool void] 60))
  have hcb := blk_cells (blk_alloc H.out.cell (.cells #[.int .i64 id, .int .i64 en, .int .i64 pe, .string ref, .slice ja lines.length jc, .bool void] 60))
  have HB := Lib.hid ((Below.refl w.heap.size w).alloc (Nat.le_refl _) (.cells #[.int .i64 id, .int .i64 en, .int .i64 pe, .string ref, .slice ja lines.length jc, .bool void] 60))
  rcases hact with rfl | ⟨rfl, h2 | h2⟩
  · have hr : res = false := by rw [← HR.out]; simp [takenJ]
    have HRR := Lib.hid hr
    clear hr
    go_enter Tryz.func46, Tryz.ntmps46
    go_wp2_with fail
    go_quiet (fail)
    go_wp2_with fail
    go_ret
    rw [HRR.out]
    exact ⟨rfl, below_drewN HB.out _⟩
  · have hr : res = false := by rw [← HR.out]; simp [takenJ, h2]
    have HRR := Lib.hid hr
    clear hr
    go_enter Tryz.func46, Tryz.ntmps46
    go_wp2_with fail
    go_quiet (fail)
    go_wp2_with fail
    go_ret
    rw [HRR.out]
    exact ⟨rfl, below_drewN HB.out _⟩
  · have hr : l.any (clash ⟨id, en, pe, ref, lines, false⟩) = res := by rw [← HR.out]; simp only [takenJ, h2, Bool.not_false, Bool.true_and]
    have HRR := Lib.hid hr
    have HSL := Lib.hid ((H.out.below HB.out).sl)
    have HSD : Hid (Sl tJn (w.alloc (.cells #[.int .i64 id, .int .i64 en, .int .i64 pe, .string ref, .slice ja lines.length jc, .bool false] 60)).drew F a l) := Sl.keep (fun k hk _ => rfl) HSL.out
    have HL : Hid (l.length ≤ maxLen) := Nat.le_trans H.out.len H.out.cap
    clear hr
    go_enter Tryz.func46, Tryz.ntmps46
    go_wp2_with fail
    go_region_with (go_at_call 76; refine (containsJ_is l a cap ⟨id, en, pe, ref, lines, false⟩ ja jc (w.alloc (.cells #[.int .i64 id, .int .i64 en, .int .i64 pe, .string ref, .slice ja lines.length jc, .bool false] 60)).drew HSD.out HL.out HRR.out).mono ?_; rintro e w' ⟨rfl, hb⟩)
    all_goals
      have HB2 := Lib.hid (belows_then (Below.drew HB.out) HB.out.size hb)
      clear hb
      go_wp2_with fail
      go_ret
      exact ⟨rfl, HB2.out⟩
end Go.Proofs.YtapmedcgfnlchaaGreat
