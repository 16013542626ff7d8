/- merge: what a book has under a number, side by side; what counts nothing. -/
import Derived.Test.YtogikjnfmcfbmaaX23MergeApart
set_option linter.unusedVariables false
set_option linter.unusedSimpArgs false
namespace Go.Proofs.Ytogikjnfmcfbmaa
open Go.RowKit Go.Maps

def GotB (w : World) (x : Jn) (e : Ending) (w' : World) : Prop :=
  ∃ a c, e = .returned (jnv x a c) ∧ tJn.R w' (fun k => w.heap.size ≤ k ∧ k < w'.heap.size) (jcs x a c) x ∧ Below w.heap.size w w'

set_option maxHeartbeats 4000000 in
set_option maxRecDepth 100000 in
theorem got_any {w : World} {g : Nat} {a : Option Addr} {cap : Nat} {l : List Jn} {F : Nat → Prop} (h : BookAt w g a cap l F) (hl : l.length ≤ 1000) (hO : OrdJ l) (hne : ∀ x ∈ l, x.lines ≠ []) (id : Int) (hid : I64 id) :
    Calls Try.prog 92 #[.pointer (some ⟨g, 0, none⟩), .int .i64 id] w (GotB w (getJ l id)) := by
  have HB := Lib.hid ((Below.refl w.heap.size w).alloc (Nat.le_refl _) (.cells #[.int .i64 0, .int .i64 0, .int .i64 0, .string ⟨#[]⟩, .slice none 0 0, .bool false] 31))
  have HZ := Lib.hid (blk_new w (.cells #[.int .i64 0, .int .i64 0, .int .i64 0, .string ⟨#[]⟩, .slice none 0 0, .bool false] 31))
  have HC := Lib.hid (bget_any (h.below HB.out) hl hO hne id hid)
  have hsz : (w.alloc (.cells #[.int .i64 0, .int .i64 0, .int .i64 0, .string ⟨#[]⟩, .slice none 0 0, .bool false] 31)).heap.size = w.heap.size + 1 := by simp
  clear h hO hne hid
  generalize getJ l id = x at *
  generalize hasJ l id = is at *
  go_enter Try.func92, Try.ntmps92
  go_wp2_with fail
  refine HC.out.mono ?_
  rintro en w2 ⟨a2, c2, rfl, hr, hb⟩
  rw [hsz] at hr
  have HB2 := Lib.hid (belows_then HB.out (by simp) hb)
  have HZ2 := Lib.hid (blk_below HZ.out hb)
  have HR2 := Lib.hid hr
  have hz := blk_cells HZ2.out
  have hzf := blk_frz HZ2.out
  have hzl := blk_lt HZ2.out
  clear hr hb HB HZ HC hsz
  go_wp2_with fail
  obtain ⟨w4, hw4, h4, hs4, hk4, hb4⟩ := six w2 w.heap.size HZ2.out (.int .i64 x.id) (.int .i64 x.en) (.int .i64 x.pe) (.string x.ref) (.slice a2 x.lines.length c2) (.bool x.void)
  rw [hw4]
  clear hw4
  have hbl4 := hb4 _ _ HB2.out (Nat.le_refl _)
  refine bodyPost_ret (v := jnv x a2 c2) (results_cell_row (fn := Try.f92) (p := 4) (ty := 31) rfl _ _ w.heap.size 31 _ (0, 0) _ rfl (blk_alloc h4 _) Try.underlying31 rfl (by kernel_rfl)) rfl ?_
  refine ⟨a2, c2, rfl, ?_, hbl4.alloc hbl4.size _⟩
  exact tJn.mono (fun kk hk hf => (⟨by have := hf.1; omega, hk⟩ : w.heap.size ≤ kk ∧ kk < _)) (tJn.keep (w := w4) (fun kk hkk hf => Below.heap_alloc w4 _ kk hkk) (tJn.keep (fun kk hkk hf => hk4 kk (by have := hf.1; omega)) HR2.out))

set_option maxHeartbeats 4000000 in
set_option maxRecDepth 100000 in
theorem ofBase_any {w : World} {g0 g1 g2 : Nat} {a : Option Addr} {cap : Nat} {l : List Jn} {F : Nat → Prop} (h : BookAt w g0 a cap l F) (hl : l.length ≤ 1000) (hO : OrdJ l) (hne : ∀ x ∈ l, x.lines ≠ []) (id : Int) (hid : I64 id) :
    Calls Try.prog 65 #[(.agg #[.pointer (some ⟨g0, 0, none⟩), .pointer (some ⟨g1, 0, none⟩), .pointer (some ⟨g2, 0, none⟩)]), .int .i64 id] w (GotB w (getJ l id)) := by
  have HB := Lib.hid (((Below.refl w.heap.size w).alloc (Nat.le_refl _) (.cells #[.pointer (some ⟨g0, 0, none⟩), .pointer (some ⟨g1, 0, none⟩), .pointer (some ⟨g2, 0, none⟩)] 71)).alloc (by simp) (.cells #[.int .i64 0, .int .i64 0, .int .i64 0, .string ⟨#[]⟩, .slice none 0 0, .bool false] 31))
  have HZ : Hid (((w.alloc (.cells #[.pointer (some ⟨g0, 0, none⟩), .pointer (some ⟨g1, 0, none⟩), .pointer (some ⟨g2, 0, none⟩)] 71)).alloc (.cells #[.int .i64 0, .int .i64 0, .int .i64 0, .string ⟨#[]⟩, .slice none 0 0, .bool false] 31)).heap[w.heap.size + 1]? = some (.cells #[.int .i64 0, .int .i64 0, .int .i64 0, .string ⟨#[]⟩, .slice none 0 0, .bool false] 31 (0, 0))) := Lib.hid (by have := blk_new (w.alloc (.cells #[.pointer (some ⟨g0, 0, none⟩), .pointer (some ⟨g1, 0, none⟩), .pointer (some ⟨g2, 0, none⟩)] 71)) (.cells #[.int .i64 0, .int .i64 0, .int .i64 0, .string ⟨#[]⟩, .slice none 0 0, .bool false] 31); simpa using this)
  have HC := Lib.hid (got_any (h.below HB.out) hl hO hne id hid)
  have hsz : ((w.alloc (.cells #[.pointer (some ⟨g0, 0, none⟩), .pointer (some ⟨g1, 0, none⟩), .pointer (some ⟨g2, 0, none⟩)] 71)).alloc (.cells #[.int .i64 0, .int .i64 0, .int .i64 0, .string ⟨#[]⟩, .slice none 0 0, .bool false] 31)).heap.size = w.heap.size + 2 := by simp
  clear h hO hne hid
  generalize getJ l id = x at *
  go_enter Try.func65, Try.ntmps65
  go_wp2_with fail
  refine HC.out.mono ?_
  rintro en w2 ⟨a2, c2, rfl, hr, hb⟩
  rw [hsz] at hr
  have HB2 := Lib.hid (belows_then HB.out (by simp; omega) hb)
  have HZ2 := Lib.hid (blk_below HZ.out hb)
  have HR2 := Lib.hid hr
  have hz := blk_cells HZ2.out
  have hzf := blk_frz HZ2.out
  have hzl := blk_lt HZ2.out
  clear hr hb HB HZ HC hsz
  go_wp2_with fail
  obtain ⟨w4, hw4, h4, hs4, hk4, hb4⟩ := six w2 (w.heap.size + 1) HZ2.out (.int .i64 x.id) (.int .i64 x.en) (.int .i64 x.pe) (.string x.ref) (.slice a2 x.lines.length c2) (.bool x.void)
  rw [hw4]
  clear hw4
  refine bodyPost_ret (v := jnv x a2 c2) (results_cell_row (fn := Try.f65) (p := 4) (ty := 31) rfl _ _ (w.heap.size + 1) 31 _ (0, 0) _ rfl h4 Try.underlying31 rfl (by kernel_rfl)) rfl ?_
  refine ⟨a2, c2, rfl, ?_, hb4 _ _ HB2.out (by omega)⟩
  exact tJn.mono (fun kk _ hf => (⟨by have := hf.1; omega, by rw [hs4]; exact hf.2⟩ : w.heap.size ≤ kk ∧ kk < w4.heap.size)) (tJn.keep (fun kk hkk hf => hk4 kk (by have := hf.1; omega)) HR2.out)
set_option maxHeartbeats 4000000 in
set_option maxRecDepth 100000 in
theorem ofOurs_any {w : World} {g0 g1 g2 : Nat} {a : Option Addr} {cap : Nat} {l : List Jn} {F : Nat → Prop} (h : BookAt w g1 a cap l F) (hl : l.length ≤ 1000) (hO : OrdJ l) (hne : ∀ x ∈ l, x.lines ≠ []) (id : Int) (hid : I64 id) :
    Calls Try.prog 66 #[(.agg #[.pointer (some ⟨g0, 0, none⟩), .pointer (some ⟨g1, 0, none⟩), .pointer (some ⟨g2, 0, none⟩)]), .int .i64 id] w (GotB w (getJ l id)) := by
  have HB := Lib.hid (((Below.refl w.heap.size w).alloc (Nat.le_refl _) (.cells #[.pointer (some ⟨g0, 0, none⟩), .pointer (some ⟨g1, 0, none⟩), .pointer (some ⟨g2, 0, none⟩)] 71)).alloc (by simp) (.cells #[.int .i64 0, .int .i64 0, .int .i64 0, .string ⟨#[]⟩, .slice none 0 0, .bool false] 31))
  have HZ : Hid (((w.alloc (.cells #[.pointer (some ⟨g0, 0, none⟩), .pointer (some ⟨g1, 0, none⟩), .pointer (some ⟨g2, 0, none⟩)] 71)).alloc (.cells #[.int .i64 0, .int .i64 0, .int .i64 0, .string ⟨#[]⟩, .slice none 0 0, .bool false] 31)).heap[w.heap.size + 1]? = some (.cells #[.int .i64 0, .int .i64 0, .int .i64 0, .string ⟨#[]⟩, .slice none 0 0, .bool false] 31 (0, 0))) := Lib.hid (by have := blk_new (w.alloc (.cells #[.pointer (some ⟨g0, 0, none⟩), .pointer (some ⟨g1, 0, none⟩), .pointer (some ⟨g2, 0, none⟩)] 71)) (.cells #[.int .i64 0, .int .i64 0, .int .i64 0, .string ⟨#[]⟩, .slice none 0 0, .bool false] 31); simpa using this)
  have HC := Lib.hid (got_any (h.below HB.out) hl hO hne id hid)
  have hsz : ((w.alloc (.cells #[.pointer (some ⟨g0, 0, none⟩), .pointer (some ⟨g1, 0, none⟩), .pointer (some ⟨g2, 0, none⟩)] 71)).alloc (.cells #[.int .i64 0, .int .i64 0, .int .i64 0, .string ⟨#[]⟩, .slice none 0 0, .bool false] 31)).heap.size = w.heap.size + 2 := by simp
  clear h hO hne hid
  generalize getJ l id = x at *
  go_enter Try.func66, Try.ntmps66
  go_wp2_with fail
  refine HC.out.mono ?_
  rintro en w2 ⟨a2, c2, rfl, hr, hb⟩
  rw [hsz] at hr
  have HB2 := Lib.hid (belows_then HB.out (by simp; omega) hb)
  have HZ2 := Lib.hid (blk_below HZ.out hb)
  have HR2 := Lib.hid hr
  have hz := blk_cells HZ2.out
  have hzf := blk_frz HZ2.out
  have hzl := blk_lt HZ2.out
  clear hr hb HB HZ HC hsz
  go_wp2_with fail
  obtain ⟨w4, hw4, h4, hs4, hk4, hb4⟩ := six w2 (w.heap.size + 1) HZ2.out (.int .i64 x.id) (.int .i64 x.en) (.int .i64 x.pe) (.string x.ref) (.slice a2 x.lines.length c2) (.bool x.void)
  rw [hw4]
  clear hw4
  refine bodyPost_ret (v := jnv x a2 c2) (results_cell_row (fn := Try.f66) (p := 4) (ty := 31) rfl _ _ (w.heap.size + 1) 31 _ (0, 0) _ rfl h4 Try.underlying31 rfl (by kernel_rfl)) rfl ?_
  refine ⟨a2, c2, rfl, ?_, hb4 _ _ HB2.out (by omega)⟩
  exact tJn.mono (fun kk _ hf => (⟨by have := hf.1; omega, by rw [hs4]; exact hf.2⟩ : w.heap.size ≤ kk ∧ kk < w4.heap.size)) (tJn.keep (fun kk hkk hf => hk4 kk (by have := hf.1; omega)) HR2.out)
set_option maxHeartbeats 4000000 in
set_option maxRecDepth 100000 in
theorem ofTheirs_any {w : World} {g0 g1 g2 : Nat} {a : Option Addr} {cap : Nat} {l : List Jn} {F : Nat → Prop} (h : BookAt w g2 a cap l F) (hl : l.length ≤ 1000) (hO : OrdJ l) (hne : ∀ x ∈ l, x.lines ≠ []) (id : Int) (hid : I64 id) :
    Calls Try.prog 67 #[(.agg #[.pointer (some ⟨g0, 0, none⟩), .pointer (some ⟨g1, 0, none⟩), .pointer (some ⟨g2, 0, none⟩)]), .int .i64 id] w (GotB w (getJ l id)) := by
  have HB := Lib.hid (((Below.refl w.heap.size w).alloc (Nat.le_refl _) (.cells #[.pointer (some ⟨g0, 0, none⟩), .pointer (some ⟨g1, 0, none⟩), .pointer (some ⟨g2, 0, none⟩)] 71)).alloc (by simp) (.cells #[.int .i64 0, .int .i64 0, .int .i64 0, .string ⟨#[]⟩, .slice none 0 0, .bool false] 31))
  have HZ : Hid (((w.alloc (.cells #[.pointer (some ⟨g0, 0, none⟩), .pointer (some ⟨g1, 0, none⟩), .pointer (some ⟨g2, 0, none⟩)] 71)).alloc (.cells #[.int .i64 0, .int .i64 0, .int .i64 0, .string ⟨#[]⟩, .slice none 0 0, .bool false] 31)).heap[w.heap.size + 1]? = some (.cells #[.int .i64 0, .int .i64 0, .int .i64 0, .string ⟨#[]⟩, .slice none 0 0, .bool false] 31 (0, 0))) := Lib.hid (by have := blk_new (w.alloc (.cells #[.pointer (some ⟨g0, 0, none⟩), .pointer (some ⟨g1, 0, none⟩), .pointer (some ⟨g2, 0, none⟩)] 71)) (.cells #[.int .i64 0, .int .i64 0, .int .i64 0, .string ⟨#[]⟩, .slice none 0 0, .bool false] 31); simpa using this)
  have HC := Lib.hid (got_any (h.below HB.out) hl hO hne id hid)
  have hsz : ((w.alloc (.cells #[.pointer (some ⟨g0, 0, none⟩), .pointer (some ⟨g1, 0, none⟩), .pointer (some ⟨g2, 0, none⟩)] 71)).alloc (.cells #[.int .i64 0, .int .i64 0, .int .i64 0, .string ⟨#[]⟩, .slice none 0 0, .bool false] 31)).heap.size = w.heap.size + 2 := by simp
  clear h hO hne hid
  generalize getJ l id = x at *
  go_enter Try.func67, Try.ntmps67
  go_wp2_with fail
  refine HC.out.mono ?_
  rintro en w2 ⟨a2, c2, rfl, hr, hb⟩
  rw [hsz] at hr
  have HB2 := Lib.hid (belows_then HB.out (by simp; omega) hb)
  have HZ2 := Lib.hid (blk_below HZ.out hb)
  have HR2 := Lib.hid hr
  have hz := blk_cells HZ2.out
  have hzf := blk_frz HZ2.out
  have hzl := blk_lt HZ2.out
  clear hr hb HB HZ HC hsz
  go_wp2_with fail
  obtain ⟨w4, hw4, h4, hs4, hk4, hb4⟩ := six w2 (w.heap.size + 1) HZ2.out (.int .i64 x.id) (.int .i64 x.en) (.int .i64 x.pe) (.string x.ref) (.slice a2 x.lines.length c2) (.bool x.void)
  rw [hw4]
  clear hw4
  refine bodyPost_ret (v := jnv x a2 c2) (results_cell_row (fn := Try.f67) (p := 4) (ty := 31) rfl _ _ (w.heap.size + 1) 31 _ (0, 0) _ rfl h4 Try.underlying31 rfl (by kernel_rfl)) rfl ?_
  refine ⟨a2, c2, rfl, ?_, hb4 _ _ HB2.out (by omega)⟩
  exact tJn.mono (fun kk _ hf => (⟨by have := hf.1; omega, by rw [hs4]; exact hf.2⟩ : w.heap.size ≤ kk ∧ kk < w4.heap.size)) (tJn.keep (fun kk hkk hf => hk4 kk (by have := hf.1; omega)) HR2.out)

def goneJ (x : Jn) : Bool := x.id == 0 || x.void
theorem gone_cases (x : Jn) : ((x.id == 0) = true ∧ goneJ x = true) ∨ ((x.id == 0) = false ∧ goneJ x = x.void) := by
  unfold goneJ
  cases x.id == 0 <;> simp
set_option maxHeartbeats 2000000 in
theorem gone_any (x : Jn) (a : Option Addr) (c : Nat) (w : World) : Calls Try.prog 68 #[jnv x a c] w fun e w' => e = .returned (.bool (goneJ x)) ∧ Below w.heap.size w w' := by
  have hcs := gone_cases x
  obtain ⟨i1, i2, i3, i4, i5, i6⟩ := x
  simp only at hcs
  have HB := Lib.hid ((Below.refl w.heap.size w).alloc (Nat.le_refl _) (.cells #[.int .i64 i1, .int .i64 i2, .int .i64 i3, .string i4, .slice a i5.length c, .bool i6] 31))
  rcases hcs with ⟨h1, h2⟩ | ⟨h1, h2⟩
  all_goals
    rw [h2]
    clear h2
    go_enter Try.func68, Try.ntmps68
    go_wp2_with fail
    go_ret
    exact ⟨rfl, HB.out⟩

/-- what comes of a number, or the kind of its conflict -/
def oneJ (b o t : Jn) : Jn × Int := if sameJ o t || sameJ b t then (o, 0) else if sameJ b o then (t, 0) else if goneJ o != goneJ t then (jn0, 2) else (jn0, 1)
end Go.Proofs.Ytogikjnfmcfbmaa
