/- The law PaperPlays, walked. -/
import Derived.Test.YtahajbejbijkpaaF
import Derived.Deep.RegionHeld3
set_option linter.unusedVariables false
set_option linter.unusedSimpArgs false
namespace Go.Proofs.Ytahajbejbijkpaa
open Go.RowKit

theorem same_self (p : Pap) (w : World) :
    Calls Try.prog 15 #[.agg #[.int .i64 p.st, .int .i64 p.co, .string p.by', .string p.au], .agg #[.int .i64 p.st, .int .i64 p.co, .string p.by', .string p.au]] w fun e w' => e = .returned (.bool true) ∧ Below w.heap.size w w' := by
  have h := same_any p p w
  have : p.same p = true := by simp [Pap.same]
  rw [this] at h
  exact h

def papCells (p : Pap) : Array Value := #[.int .i64 p.st, .int .i64 p.co, .string p.by', .string p.au]

/-- two papers alike, in blocks of the call's own -/
structure St4 (w wr : World) (k : Nat) (p : Pap) : Prop where
  below : Below w.heap.size w wr
  ge : w.heap.size ≤ k
  b1 : wr.heap[k]? = some (.cells #[.int .i64 p.st, .int .i64 p.co, .string p.by', .string p.au] 24 (0, 0))
  b2 : wr.heap[k + 1]? = some (.cells #[.int .i64 p.st, .int .i64 p.co, .string p.by', .string p.au] 32 (0, 0))

theorem abs_world {P : Program} {c : Code} {Q : Exit → Act → World → Prop} {a : Act} {W : World} {S : World → Prop} (h : ∀ wx, S wx → c.wp P Q a wx) (hs : S W) : c.wp P Q a W := h W hs

structure SSx (w : World) (k m : Nat) (p : Pap) (o : Opn) (wx : World) : Prop where
  b1 : wx.heap[k]? = some (.cells #[.int .i64 p.st, .int .i64 p.co, .string p.by', .string p.au] 24 (0, 0))
  b2 : wx.heap[k + 1]? = some (.cells #[.int .i64 p.st, .int .i64 p.co, .string p.by', .string p.au] 32 (0, 0))
  b3 : wx.heap[m]? = some (.cells #[.int .i64 o.kind, .int .i64 o.com, .string o.user] 34 (0, 0))
  below : Below w.heap.size w wx
theorem SSx.c1 {w wx : World} {k m : Nat} {p : Pap} {o : Opn} (h : SSx w k m p o wx) : ∀ i, wx.cell? ⟨k, i, none⟩ = #[Value.int .i64 p.st, .int .i64 p.co, .string p.by', .string p.au][i]? := blk_cells h.b1
theorem SSx.c2 {w wx : World} {k m : Nat} {p : Pap} {o : Opn} (h : SSx w k m p o wx) : ∀ i, wx.cell? ⟨k + 1, i, none⟩ = #[Value.int .i64 p.st, .int .i64 p.co, .string p.by', .string p.au][i]? := blk_cells h.b2
theorem SSx.c3 {w wx : World} {k m : Nat} {p : Pap} {o : Opn} (h : SSx w k m p o wx) : ∀ i, wx.cell? ⟨m, i, none⟩ = #[Value.int .i64 o.kind, .int .i64 o.com, .string o.user][i]? := blk_cells h.b3
theorem SSx.all {w wx : World} {k m : Nat} {p : Pap} {o : Opn} (h : SSx w k m p o wx) : SSx w k m p o wx ∧ (∀ i, wx.cell? ⟨k, i, none⟩ = #[Value.int .i64 p.st, .int .i64 p.co, .string p.by', .string p.au][i]?) ∧ (∀ i, wx.cell? ⟨k + 1, i, none⟩ = #[Value.int .i64 p.st, .int .i64 p.co, .string p.by', .string p.au][i]?) ∧ (∀ i, wx.cell? ⟨m, i, none⟩ = #[Value.int .i64 o.kind, .int .i64 o.com, .string o.user][i]?) := ⟨h, h.c1, h.c2, h.c3⟩
theorem SSx.drew {w wx : World} {k m : Nat} {p : Pap} {o : Opn} (h : SSx w k m p o wx) : SSx w k m p o wx.drew := ⟨h.b1, h.b2, h.b3, h.below.drew⟩
theorem SSx.call {w wx w1 : World} {k m : Nat} {p : Pap} {o : Opn} (h : SSx w k m p o wx) (hb : Below wx.heap.size wx w1) : SSx w k m p o w1 :=
  ⟨blk_below h.b1 hb, blk_below h.b2 hb, blk_below h.b3 hb, belows_then h.below h.below.size hb⟩

set_option maxHeartbeats 4000000 in
set_option maxRecDepth 100000 in
theorem plays_walk (st co ask : Int) (b u : ByteArray) (a : Option Addr) (cap : Nat) (l : List Opn) (w : World) (hs : Sl tOpn w a l) (hl : l.length ≤ 40) (hsz : (b.size : Int) + (u.size : Int) ≤ 100)
    (hb9 : b.size ≤ 140737488351232) (hu9 : u.size ≤ 140737488351232) :
    Calls Try.prog 4 #[.int .i64 st, .int .i64 co, .string b, .string u, .slice a l.length cap, .int .i64 ask] w fun e w' => e = .returned (.bool true) ∧ Below w.heap.size w w' := by
  go_enter Try.func4, Try.ntmps4
  go_wp2_with fail
  refine (alive_any _).mono ?_
  rintro e w0 ⟨rfl, hb0⟩; obtain ⟨hchb0, hfhb0⟩ := bcell hb0; have hzhb0 := (hb0).size; (try simp at hzhb0)
  go_wp2_with fail
  have HS0 : St4 w ((w0.alloc (.cells #[.int .i64 st, .int .i64 co, .string b, .string u] 24)).alloc (.cells #[.int .i64 st, .int .i64 co, .string b, .string u] 32)) w0.heap.size ⟨st, co, b, u⟩ :=
    ⟨(hb0.alloc hb0.size _).alloc (by simp; have := hb0.size; omega) _, hb0.size, blk_alloc (blk_new _ _) _, by have := blk_new (w0.alloc (.cells #[.int .i64 st, .int .i64 co, .string b, .string u] 24)) (.cells #[.int .i64 st, .int .i64 co, .string b, .string u] 32); simpa using this⟩
  clear hchb0 hfhb0
  have HL := Lib.hid hs
  clear hs
  go_loopw [15] (fun vi wr => ∃ (n : Nat) (p : Pap), n ≤ l.length ∧ vi = .int .i64 n ∧ St4 w wr w0.heap.size p)
    (fun vi _ => l.length - (intOf vi).toNat)
  case atStart => exact ⟨0, _, Nat.zero_le _, rfl, HS0⟩
  case round =>
    obtain ⟨n, p, hn, rfl, hS⟩ := hrel
    clear HS0
    by_cases hlt : n < l.length
    · obtain ⟨ad, rfl, hadl, hc0, hc1, hc2, hus⟩ := opn_at (HL.out.keep hS.below) n hlt
      have hk := blk_lt hS.b2
      have hk0 := blk_lt hS.b1
      have hck := blk_cells hS.b1
      have hfk := blk_frz hS.b1
      have hcr := blk_cells hS.b2
      have hfr := blk_frz hS.b2
      go_wp2_with fail
      · -- handed in
        refine (submit_any _ _ _ _ _ _ _ (by omega)).mono ?_
        rintro e w1 ⟨rfl, hb⟩
        have hk1 := blk_below (blk_alloc hS.b1 _) hb
        have hr1 := blk_below (blk_alloc hS.b2 _) hb
        have ho1 := blk_below (blk_new wr _) hb
        have HB1 : Below w.heap.size w w1 := belows_then (hS.below.alloc hS.below.size _) (Nat.le_trans hS.below.size (by simp)) hb
        have hge := hS.ge
        have hl0 := blk_lt hk1
        have hl1 := blk_lt hr1
        have hl2 := blk_lt ho1
        have hne1 : ¬ w0.heap.size = wr.heap.size := by omega
        have hne2 : ¬ wr.heap.size = w0.heap.size := by omega
        have hne3 : ¬ w0.heap.size + 1 = wr.heap.size := by omega
        have hne4 : ¬ wr.heap.size = w0.heap.size + 1 := by omega
        clear hck hfk hc0 hc1 hc2 hb hcr hfr hS
        have hck := blk_cells hk1
        have hfk := blk_frz hk1
        have hcr := blk_cells hr1
        have hfr := blk_frz hr1
        have hco := blk_cells ho1
        have HK := Lib.hid hk1
        have HR := Lib.hid hr1
        have HO := Lib.hid ho1
        have HB := Lib.hid HB1
        clear hk1 hr1 ho1 HB1
        go_wp2_with fail
        refine (rsubmit_any _ _ _ _ _ _ _).mono ?_
        generalize Pap.submit p l[n].com l[n].user = r at *
        obtain ⟨⟨st', co', b', a'⟩, er⟩ := r
        rintro e w2 ⟨rfl, hb⟩
        have hk1 := blk_below (blk_set (blk_set (blk_set (blk_set HK.out 0 _) 1 _) 2 _) 3 _) hb
        have hr1 := blk_below (blk_far (blk_far (blk_far (blk_far HR.out (p := ⟨w0.heap.size, 0, none⟩) (by simp) _) (p := ⟨w0.heap.size, 1, none⟩) (by simp) _) (p := ⟨w0.heap.size, 2, none⟩) (by simp) _) (p := ⟨w0.heap.size, 3, none⟩) (by simp) _) hb
        have ho1 := blk_below (blk_far (blk_far (blk_far (blk_far HO.out (p := ⟨w0.heap.size, 0, none⟩) hne2 _) (p := ⟨w0.heap.size, 1, none⟩) hne2 _) (p := ⟨w0.heap.size, 2, none⟩) hne2 _) (p := ⟨w0.heap.size, 3, none⟩) hne2 _) hb
        have HB1 : Below w.heap.size w w2 := belows_then ((((HB.out.setCell hge _).setCell hge _).setCell hge _).setCell hge _) (by have := HB.out.size; simpa using this) hb
        clear hck hfk hb hcr hfr hco HK HR HO HB hl0 hl1 hl2
        simp at hk1
        have hl0 := blk_lt hk1
        have hl1 := blk_lt hr1
        have hl2 := blk_lt ho1
        have hck := blk_cells hk1
        have hfk := blk_frz hk1
        have hcr := blk_cells hr1
        have hfr := blk_frz hr1
        have hco := blk_cells ho1
        have HK := Lib.hid hk1
        have HR := Lib.hid hr1
        have HO := Lib.hid ho1
        have HB := Lib.hid HB1
        clear hk1 hr1 ho1 HB1
        go_wp2_with fail
        have hr1 := blk_set (blk_set (blk_set (blk_set HR.out 0 (.int .i64 st')) 1 (.int .i64 co')) 2 (.string b')) 3 (.string a')
        have hk1 := blk_far (blk_far (blk_far (blk_far HK.out (p := ⟨w0.heap.size + 1, 0, none⟩) (by simp) (.int .i64 st')) (p := ⟨w0.heap.size + 1, 1, none⟩) (by simp) (.int .i64 co')) (p := ⟨w0.heap.size + 1, 2, none⟩) (by simp) (.string b')) (p := ⟨w0.heap.size + 1, 3, none⟩) (by simp) (.string a')
        have ho1 := blk_far (blk_far (blk_far (blk_far HO.out (p := ⟨w0.heap.size + 1, 0, none⟩) hne4 (.int .i64 st')) (p := ⟨w0.heap.size + 1, 1, none⟩) hne4 (.int .i64 co')) (p := ⟨w0.heap.size + 1, 2, none⟩) hne4 (.string b')) (p := ⟨w0.heap.size + 1, 3, none⟩) hne4 (.string a')
        have HB1 := (((HB.out.setCell (p := ⟨w0.heap.size + 1, 0, none⟩) (Nat.le_succ_of_le hge) (.int .i64 st')).setCell (p := ⟨w0.heap.size + 1, 1, none⟩) (Nat.le_succ_of_le hge) (.int .i64 co')).setCell (p := ⟨w0.heap.size + 1, 2, none⟩) (Nat.le_succ_of_le hge) (.string b')).setCell (p := ⟨w0.heap.size + 1, 3, none⟩) (Nat.le_succ_of_le hge) (.string a')
        simp at hr1
        clear hck hfk hcr hfr hco HK HR HO HB hl0 hl1 hl2
        refine abs_world (S := SSx w w0.heap.size wr.heap.size ⟨st', co', b', a'⟩ l[n]) ?_ ⟨hk1, hr1, ho1, HB1⟩
        clear hk1 hr1 ho1 HB1
        intro wx hS
        have h1 := hS.c1
        have h2 := hS.c2
        have h3 := hS.c3
        go_region_held3 (fun w' => SSx w w0.heap.size wr.heap.size ⟨st', co', b', a'⟩ l[n] w' ∧ (∀ o, w'.cell? ⟨w0.heap.size, o, none⟩ = #[Value.int .i64 st', .int .i64 co', .string b', .string a'][o]?) ∧ (∀ o, w'.cell? ⟨w0.heap.size + 1, o, none⟩ = #[Value.int .i64 st', .int .i64 co', .string b', .string a'][o]?) ∧ (∀ o, w'.cell? ⟨wr.heap.size, o, none⟩ = #[Value.int .i64 l[n].kind, .int .i64 l[n].com, .string l[n].user][o]?)) (first | exact SSx.all (SSx.drew (by assumption)) | exact SSx.all (SSx.call (by assumption) hb) | exact SSx.all (SSx.call (And.left (by assumption)) hb)) (first | (go_at_call 15; refine (same_self ⟨st', co', b', a'⟩ _).mono ?_; rintro e w' ⟨rfl, hb⟩) | (go_at_call 10; refine (holds_any _ _ _ _ _ _).mono ?_; rintro e w' ⟨rfl, hb⟩) | (go_at_call 16; refine (rholds_any _ _ _ _ _ _).mono ?_; rintro e w' ⟨rfl, hb⟩))
        have hfin : SSx w w0.heap.size wr.heap.size ⟨st', co', b', a'⟩ l[n] w' := And.left (by assumption)
        clear hS h1 h2 h3
        go_wp2_with fail
        go_roundw
        case rel => exact ⟨n + 1, _, by omega, by go_num, ⟨hfin.below, hge, hfin.b1, hfin.b2⟩⟩
        case measure => simp [intOf]; omega
      · refine (approve_any _ _ _ _ _ _ (by omega)).mono ?_
        rintro e w1 ⟨rfl, hb⟩
        have hk1 := blk_below (blk_alloc hS.b1 _) hb
        have hr1 := blk_below (blk_alloc hS.b2 _) hb
        have ho1 := blk_below (blk_new wr _) hb
        have HB1 : Below w.heap.size w w1 := belows_then (hS.below.alloc hS.below.size _) (Nat.le_trans hS.below.size (by simp)) hb
        have hge := hS.ge
        have hl0 := blk_lt hk1
        have hl1 := blk_lt hr1
        have hl2 := blk_lt ho1
        have hne1 : ¬ w0.heap.size = wr.heap.size := by omega
        have hne2 : ¬ wr.heap.size = w0.heap.size := by omega
        have hne3 : ¬ w0.heap.size + 1 = wr.heap.size := by omega
        have hne4 : ¬ wr.heap.size = w0.heap.size + 1 := by omega
        clear hck hfk hc0 hc1 hc2 hb hcr hfr hS
        have hck := blk_cells hk1
        have hfk := blk_frz hk1
        have hcr := blk_cells hr1
        have hfr := blk_frz hr1
        have hco := blk_cells ho1
        have HK := Lib.hid hk1
        have HR := Lib.hid hr1
        have HO := Lib.hid ho1
        have HB := Lib.hid HB1
        clear hk1 hr1 ho1 HB1
        go_wp2_with fail
        refine (rapprove_any _ _ _ _ _ _).mono ?_
        generalize Pap.approve p l[n].user = r at *
        obtain ⟨⟨st', co', b', a'⟩, er⟩ := r
        rintro e w2 ⟨rfl, hb⟩
        have hk1 := blk_below (blk_set (blk_set (blk_set (blk_set HK.out 0 _) 1 _) 2 _) 3 _) hb
        have hr1 := blk_below (blk_far (blk_far (blk_far (blk_far HR.out (p := ⟨w0.heap.size, 0, none⟩) (by simp) _) (p := ⟨w0.heap.size, 1, none⟩) (by simp) _) (p := ⟨w0.heap.size, 2, none⟩) (by simp) _) (p := ⟨w0.heap.size, 3, none⟩) (by simp) _) hb
        have ho1 := blk_below (blk_far (blk_far (blk_far (blk_far HO.out (p := ⟨w0.heap.size, 0, none⟩) hne2 _) (p := ⟨w0.heap.size, 1, none⟩) hne2 _) (p := ⟨w0.heap.size, 2, none⟩) hne2 _) (p := ⟨w0.heap.size, 3, none⟩) hne2 _) hb
        have HB1 : Below w.heap.size w w2 := belows_then ((((HB.out.setCell hge _).setCell hge _).setCell hge _).setCell hge _) (by have := HB.out.size; simpa using this) hb
        clear hck hfk hb hcr hfr hco HK HR HO HB hl0 hl1 hl2
        simp at hk1
        have hl0 := blk_lt hk1
        have hl1 := blk_lt hr1
        have hl2 := blk_lt ho1
        have hck := blk_cells hk1
        have hfk := blk_frz hk1
        have hcr := blk_cells hr1
        have hfr := blk_frz hr1
        have hco := blk_cells ho1
        have HK := Lib.hid hk1
        have HR := Lib.hid hr1
        have HO := Lib.hid ho1
        have HB := Lib.hid HB1
        clear hk1 hr1 ho1 HB1
        go_wp2_with fail
        have hr1 := blk_set (blk_set (blk_set (blk_set HR.out 0 (.int .i64 st')) 1 (.int .i64 co')) 2 (.string b')) 3 (.string a')
        have hk1 := blk_far (blk_far (blk_far (blk_far HK.out (p := ⟨w0.heap.size + 1, 0, none⟩) (by simp) (.int .i64 st')) (p := ⟨w0.heap.size + 1, 1, none⟩) (by simp) (.int .i64 co')) (p := ⟨w0.heap.size + 1, 2, none⟩) (by simp) (.string b')) (p := ⟨w0.heap.size + 1, 3, none⟩) (by simp) (.string a')
        have ho1 := blk_far (blk_far (blk_far (blk_far HO.out (p := ⟨w0.heap.size + 1, 0, none⟩) hne4 (.int .i64 st')) (p := ⟨w0.heap.size + 1, 1, none⟩) hne4 (.int .i64 co')) (p := ⟨w0.heap.size + 1, 2, none⟩) hne4 (.string b')) (p := ⟨w0.heap.size + 1, 3, none⟩) hne4 (.string a')
        have HB1 := (((HB.out.setCell (p := ⟨w0.heap.size + 1, 0, none⟩) (Nat.le_succ_of_le hge) (.int .i64 st')).setCell (p := ⟨w0.heap.size + 1, 1, none⟩) (Nat.le_succ_of_le hge) (.int .i64 co')).setCell (p := ⟨w0.heap.size + 1, 2, none⟩) (Nat.le_succ_of_le hge) (.string b')).setCell (p := ⟨w0.heap.size + 1, 3, none⟩) (Nat.le_succ_of_le hge) (.string a')
        simp at hr1
        clear hck hfk hcr hfr hco HK HR HO HB hl0 hl1 hl2
        refine abs_world (S := SSx w w0.heap.size wr.heap.size ⟨st', co', b', a'⟩ l[n]) ?_ ⟨hk1, hr1, ho1, HB1⟩
        clear hk1 hr1 ho1 HB1
        intro wx hS
        have h1 := hS.c1
        have h2 := hS.c2
        have h3 := hS.c3
        go_region_held3 (fun w' => SSx w w0.heap.size wr.heap.size ⟨st', co', b', a'⟩ l[n] w' ∧ (∀ o, w'.cell? ⟨w0.heap.size, o, none⟩ = #[Value.int .i64 st', .int .i64 co', .string b', .string a'][o]?) ∧ (∀ o, w'.cell? ⟨w0.heap.size + 1, o, none⟩ = #[Value.int .i64 st', .int .i64 co', .string b', .string a'][o]?) ∧ (∀ o, w'.cell? ⟨wr.heap.size, o, none⟩ = #[Value.int .i64 l[n].kind, .int .i64 l[n].com, .string l[n].user][o]?)) (first | exact SSx.all (SSx.drew (by assumption)) | exact SSx.all (SSx.call (by assumption) hb) | exact SSx.all (SSx.call (And.left (by assumption)) hb)) (first | (go_at_call 15; refine (same_self ⟨st', co', b', a'⟩ _).mono ?_; rintro e w' ⟨rfl, hb⟩) | (go_at_call 10; refine (holds_any _ _ _ _ _ _).mono ?_; rintro e w' ⟨rfl, hb⟩) | (go_at_call 16; refine (rholds_any _ _ _ _ _ _).mono ?_; rintro e w' ⟨rfl, hb⟩))
        have hfin : SSx w w0.heap.size wr.heap.size ⟨st', co', b', a'⟩ l[n] w' := And.left (by assumption)
        clear hS h1 h2 h3
        go_wp2_with fail
        go_roundw
        case rel => exact ⟨n + 1, _, by omega, by go_num, ⟨hfin.below, hge, hfin.b1, hfin.b2⟩⟩
        case measure => simp [intOf]; omega
      · refine (reject_any _ _ _ _ _ _ (by omega)).mono ?_
        rintro e w1 ⟨rfl, hb⟩
        have hk1 := blk_below (blk_alloc hS.b1 _) hb
        have hr1 := blk_below (blk_alloc hS.b2 _) hb
        have ho1 := blk_below (blk_new wr _) hb
        have HB1 : Below w.heap.size w w1 := belows_then (hS.below.alloc hS.below.size _) (Nat.le_trans hS.below.size (by simp)) hb
        have hge := hS.ge
        have hl0 := blk_lt hk1
        have hl1 := blk_lt hr1
        have hl2 := blk_lt ho1
        have hne1 : ¬ w0.heap.size = wr.heap.size := by omega
        have hne2 : ¬ wr.heap.size = w0.heap.size := by omega
        have hne3 : ¬ w0.heap.size + 1 = wr.heap.size := by omega
        have hne4 : ¬ wr.heap.size = w0.heap.size + 1 := by omega
        clear hck hfk hc0 hc1 hc2 hb hcr hfr hS
        have hck := blk_cells hk1
        have hfk := blk_frz hk1
        have hcr := blk_cells hr1
        have hfr := blk_frz hr1
        have hco := blk_cells ho1
        have HK := Lib.hid hk1
        have HR := Lib.hid hr1
        have HO := Lib.hid ho1
        have HB := Lib.hid HB1
        clear hk1 hr1 ho1 HB1
        go_wp2_with fail
        refine (rreject_any _ _ _ _ _ _).mono ?_
        generalize Pap.reject p l[n].user = r at *
        obtain ⟨⟨st', co', b', a'⟩, er⟩ := r
        rintro e w2 ⟨rfl, hb⟩
        have hk1 := blk_below (blk_set (blk_set (blk_set (blk_set HK.out 0 _) 1 _) 2 _) 3 _) hb
        have hr1 := blk_below (blk_far (blk_far (blk_far (blk_far HR.out (p := ⟨w0.heap.size, 0, none⟩) (by simp) _) (p := ⟨w0.heap.size, 1, none⟩) (by simp) _) (p := ⟨w0.heap.size, 2, none⟩) (by simp) _) (p := ⟨w0.heap.size, 3, none⟩) (by simp) _) hb
        have ho1 := blk_below (blk_far (blk_far (blk_far (blk_far HO.out (p := ⟨w0.heap.size, 0, none⟩) hne2 _) (p := ⟨w0.heap.size, 1, none⟩) hne2 _) (p := ⟨w0.heap.size, 2, none⟩) hne2 _) (p := ⟨w0.heap.size, 3, none⟩) hne2 _) hb
        have HB1 : Below w.heap.size w w2 := belows_then ((((HB.out.setCell hge _).setCell hge _).setCell hge _).setCell hge _) (by have := HB.out.size; simpa using this) hb
        clear hck hfk hb hcr hfr hco HK HR HO HB hl0 hl1 hl2
        simp at hk1
        have hl0 := blk_lt hk1
        have hl1 := blk_lt hr1
        have hl2 := blk_lt ho1
        have hck := blk_cells hk1
        have hfk := blk_frz hk1
        have hcr := blk_cells hr1
        have hfr := blk_frz hr1
        have hco := blk_cells ho1
        have HK := Lib.hid hk1
        have HR := Lib.hid hr1
        have HO := Lib.hid ho1
        have HB := Lib.hid HB1
        clear hk1 hr1 ho1 HB1
        go_wp2_with fail
        have hr1 := blk_set (blk_set (blk_set (blk_set HR.out 0 (.int .i64 st')) 1 (.int .i64 co')) 2 (.string b')) 3 (.string a')
        have hk1 := blk_far (blk_far (blk_far (blk_far HK.out (p := ⟨w0.heap.size + 1, 0, none⟩) (by simp) (.int .i64 st')) (p := ⟨w0.heap.size + 1, 1, none⟩) (by simp) (.int .i64 co')) (p := ⟨w0.heap.size + 1, 2, none⟩) (by simp) (.string b')) (p := ⟨w0.heap.size + 1, 3, none⟩) (by simp) (.string a')
        have ho1 := blk_far (blk_far (blk_far (blk_far HO.out (p := ⟨w0.heap.size + 1, 0, none⟩) hne4 (.int .i64 st')) (p := ⟨w0.heap.size + 1, 1, none⟩) hne4 (.int .i64 co')) (p := ⟨w0.heap.size + 1, 2, none⟩) hne4 (.string b')) (p := ⟨w0.heap.size + 1, 3, none⟩) hne4 (.string a')
        have HB1 := (((HB.out.setCell (p := ⟨w0.heap.size + 1, 0, none⟩) (Nat.le_succ_of_le hge) (.int .i64 st')).setCell (p := ⟨w0.heap.size + 1, 1, none⟩) (Nat.le_succ_of_le hge) (.int .i64 co')).setCell (p := ⟨w0.heap.size + 1, 2, none⟩) (Nat.le_succ_of_le hge) (.string b')).setCell (p := ⟨w0.heap.size + 1, 3, none⟩) (Nat.le_succ_of_le hge) (.string a')
        simp at hr1
        clear hck hfk hcr hfr hco HK HR HO HB hl0 hl1 hl2
        refine abs_world (S := SSx w w0.heap.size wr.heap.size ⟨st', co', b', a'⟩ l[n]) ?_ ⟨hk1, hr1, ho1, HB1⟩
        clear hk1 hr1 ho1 HB1
        intro wx hS
        have h1 := hS.c1
        have h2 := hS.c2
        have h3 := hS.c3
        go_region_held3 (fun w' => SSx w w0.heap.size wr.heap.size ⟨st', co', b', a'⟩ l[n] w' ∧ (∀ o, w'.cell? ⟨w0.heap.size, o, none⟩ = #[Value.int .i64 st', .int .i64 co', .string b', .string a'][o]?) ∧ (∀ o, w'.cell? ⟨w0.heap.size + 1, o, none⟩ = #[Value.int .i64 st', .int .i64 co', .string b', .string a'][o]?) ∧ (∀ o, w'.cell? ⟨wr.heap.size, o, none⟩ = #[Value.int .i64 l[n].kind, .int .i64 l[n].com, .string l[n].user][o]?)) (first | exact SSx.all (SSx.drew (by assumption)) | exact SSx.all (SSx.call (by assumption) hb) | exact SSx.all (SSx.call (And.left (by assumption)) hb)) (first | (go_at_call 15; refine (same_self ⟨st', co', b', a'⟩ _).mono ?_; rintro e w' ⟨rfl, hb⟩) | (go_at_call 10; refine (holds_any _ _ _ _ _ _).mono ?_; rintro e w' ⟨rfl, hb⟩) | (go_at_call 16; refine (rholds_any _ _ _ _ _ _).mono ?_; rintro e w' ⟨rfl, hb⟩))
        have hfin : SSx w w0.heap.size wr.heap.size ⟨st', co', b', a'⟩ l[n] w' := And.left (by assumption)
        clear hS h1 h2 h3
        go_wp2_with fail
        go_roundw
        case rel => exact ⟨n + 1, _, by omega, by go_num, ⟨hfin.below, hge, hfin.b1, hfin.b2⟩⟩
        case measure => simp [intOf]; omega
      · refine (touch_any _ _ _ _ _).mono ?_
        rintro e w1 ⟨rfl, hb⟩
        have hk1 := blk_below (blk_alloc hS.b1 _) hb
        have hr1 := blk_below (blk_alloc hS.b2 _) hb
        have ho1 := blk_below (blk_new wr _) hb
        have HB1 : Below w.heap.size w w1 := belows_then (hS.below.alloc hS.below.size _) (Nat.le_trans hS.below.size (by simp)) hb
        have hge := hS.ge
        have hl0 := blk_lt hk1
        have hl1 := blk_lt hr1
        have hl2 := blk_lt ho1
        have hne1 : ¬ w0.heap.size = wr.heap.size := by omega
        have hne2 : ¬ wr.heap.size = w0.heap.size := by omega
        have hne3 : ¬ w0.heap.size + 1 = wr.heap.size := by omega
        have hne4 : ¬ wr.heap.size = w0.heap.size + 1 := by omega
        clear hck hfk hc0 hc1 hc2 hb hcr hfr hS
        have hck := blk_cells hk1
        have hfk := blk_frz hk1
        have hcr := blk_cells hr1
        have hfr := blk_frz hr1
        have hco := blk_cells ho1
        have HK := Lib.hid hk1
        have HR := Lib.hid hr1
        have HO := Lib.hid ho1
        have HB := Lib.hid HB1
        clear hk1 hr1 ho1 HB1
        go_wp2_with fail
        have hk1 := blk_set (blk_set (blk_set (blk_set HK.out 0 (.int .i64 0)) 1 (.int .i64 0)) 2 (.string ⟨#[]⟩)) 3 (.string ⟨#[]⟩)
        have hr1 := blk_far (blk_far (blk_far (blk_far HR.out (p := ⟨w0.heap.size, 0, none⟩) (by simp) (.int .i64 0)) (p := ⟨w0.heap.size, 1, none⟩) (by simp) (.int .i64 0)) (p := ⟨w0.heap.size, 2, none⟩) (by simp) (.string ⟨#[]⟩)) (p := ⟨w0.heap.size, 3, none⟩) (by simp) (.string ⟨#[]⟩)
        have ho1 := blk_far (blk_far (blk_far (blk_far HO.out (p := ⟨w0.heap.size, 0, none⟩) hne2 (.int .i64 0)) (p := ⟨w0.heap.size, 1, none⟩) hne2 (.int .i64 0)) (p := ⟨w0.heap.size, 2, none⟩) hne2 (.string ⟨#[]⟩)) (p := ⟨w0.heap.size, 3, none⟩) hne2 (.string ⟨#[]⟩)
        have HB1 := (((HB.out.setCell (p := ⟨w0.heap.size, 0, none⟩) hge (.int .i64 0)).setCell (p := ⟨w0.heap.size, 1, none⟩) hge (.int .i64 0)).setCell (p := ⟨w0.heap.size, 2, none⟩) hge (.string ⟨#[]⟩)).setCell (p := ⟨w0.heap.size, 3, none⟩) hge (.string ⟨#[]⟩)
        have hr2 := blk_set (blk_set (blk_set (blk_set hr1 0 (.int .i64 0)) 1 (.int .i64 0)) 2 (.string ⟨#[]⟩)) 3 (.string ⟨#[]⟩)
        have hk2 := blk_far (blk_far (blk_far (blk_far hk1 (p := ⟨w0.heap.size + 1, 0, none⟩) (by simp) (.int .i64 0)) (p := ⟨w0.heap.size + 1, 1, none⟩) (by simp) (.int .i64 0)) (p := ⟨w0.heap.size + 1, 2, none⟩) (by simp) (.string ⟨#[]⟩)) (p := ⟨w0.heap.size + 1, 3, none⟩) (by simp) (.string ⟨#[]⟩)
        have ho2 := blk_far (blk_far (blk_far (blk_far ho1 (p := ⟨w0.heap.size + 1, 0, none⟩) hne4 (.int .i64 0)) (p := ⟨w0.heap.size + 1, 1, none⟩) hne4 (.int .i64 0)) (p := ⟨w0.heap.size + 1, 2, none⟩) hne4 (.string ⟨#[]⟩)) (p := ⟨w0.heap.size + 1, 3, none⟩) hne4 (.string ⟨#[]⟩)
        have HB2 := (((HB1.setCell (p := ⟨w0.heap.size + 1, 0, none⟩) (Nat.le_succ_of_le hge) (.int .i64 0)).setCell (p := ⟨w0.heap.size + 1, 1, none⟩) (Nat.le_succ_of_le hge) (.int .i64 0)).setCell (p := ⟨w0.heap.size + 1, 2, none⟩) (Nat.le_succ_of_le hge) (.string ⟨#[]⟩)).setCell (p := ⟨w0.heap.size + 1, 3, none⟩) (Nat.le_succ_of_le hge) (.string ⟨#[]⟩)
        clear hk1 hr1 ho1 HB1
        have hk1 := hk2; have hr1 := hr2; have ho1 := ho2; have HB1 := HB2
        clear hk2 hr2 ho2 HB2
        simp at hr1 hk1
        clear hck hfk hcr hfr hco HK HR HO HB hl0 hl1 hl2
        refine abs_world (S := SSx w w0.heap.size wr.heap.size ⟨0, 0, ⟨#[]⟩, ⟨#[]⟩⟩ l[n]) ?_ ⟨hk1, hr1, ho1, HB1⟩
        clear hk1 hr1 ho1 HB1
        intro wx hS
        have h1 := hS.c1
        have h2 := hS.c2
        have h3 := hS.c3
        go_region_held3 (fun w' => SSx w w0.heap.size wr.heap.size ⟨0, 0, ⟨#[]⟩, ⟨#[]⟩⟩ l[n] w' ∧ (∀ o, w'.cell? ⟨w0.heap.size, o, none⟩ = #[Value.int .i64 0, .int .i64 0, .string ⟨#[]⟩, .string ⟨#[]⟩][o]?) ∧ (∀ o, w'.cell? ⟨w0.heap.size + 1, o, none⟩ = #[Value.int .i64 0, .int .i64 0, .string ⟨#[]⟩, .string ⟨#[]⟩][o]?) ∧ (∀ o, w'.cell? ⟨wr.heap.size, o, none⟩ = #[Value.int .i64 l[n].kind, .int .i64 l[n].com, .string l[n].user][o]?)) (first | exact SSx.all (SSx.drew (by assumption)) | exact SSx.all (SSx.call (by assumption) hb) | exact SSx.all (SSx.call (And.left (by assumption)) hb)) (first | (go_at_call 15; refine (same_self ⟨0, 0, ⟨#[]⟩, ⟨#[]⟩⟩ _).mono ?_; rintro e w' ⟨rfl, hb⟩) | (go_at_call 10; refine (holds_any _ _ _ _ _ _).mono ?_; rintro e w' ⟨rfl, hb⟩) | (go_at_call 16; refine (rholds_any _ _ _ _ _ _).mono ?_; rintro e w' ⟨rfl, hb⟩))
        have hfin : SSx w w0.heap.size wr.heap.size ⟨0, 0, ⟨#[]⟩, ⟨#[]⟩⟩ l[n] w' := And.left (by assumption)
        clear hS h1 h2 h3
        go_wp2_with fail
        go_roundw
        case rel => exact ⟨n + 1, _, by omega, by go_num, ⟨hfin.below, hge, hfin.b1, hfin.b2⟩⟩
        case measure => simp [intOf]; omega
    · go_wp2_with fail
      go_ret
      exact ⟨rfl, hS.below⟩

set_option maxHeartbeats 1000000 in
theorem plays_any (st co : Int) (b u : ByteArray) (a : Option Addr) (len cap : Nat) (l : List Opn) (ask : Int) (w : World) (hb9 : b.size ≤ 140737488351232) (hu9 : u.size ≤ 140737488351232) (h : tOpns.R w [.slice a len cap] l) :
    Calls Try.prog 4 #[.int .i64 st, .int .i64 co, .string b, .string u, .slice a len cap, .int .i64 ask] w fun e w' => e = .returned (.bool true) ∧ Below w.heap.size w w' := by
  obtain ⟨a', cap', he, hs, h1, h2, h3⟩ := h
  simp only [List.cons.injEq, Value.slice.injEq, and_true] at he
  obtain ⟨rfl, rfl, rfl⟩ := he
  unfold maxLen at h2
  by_cases hl : l.length ≤ 40
  · by_cases hsz : (b.size : Int) + (u.size : Int) ≤ 100
    · exact plays_walk _ _ _ _ _ _ _ _ _ hs hl hsz hb9 hu9
    · have hl' : 100 < (b.size : Int) + (u.size : Int) := by omega
      clear hs h3 hsz
      go_enter Try.func4, Try.ntmps4
      go_wp2_with (go_at_call 6; refine (alive_any _).mono ?_; rintro e w1 ⟨rfl, hb1⟩; obtain ⟨hchb1, hfhb1⟩ := bcell hb1; have hzhb1 := (hb1).size; (try simp at hzhb1))
      go_ret
      exact ⟨rfl, hb1⟩
  · have hl' : 40 < l.length := by omega
    clear hs h3 hl
    go_enter Try.func4, Try.ntmps4
    go_wp2_with (go_at_call 6; refine (alive_any _).mono ?_; rintro e w1 ⟨rfl, hb1⟩; obtain ⟨hchb1, hfhb1⟩ := bcell hb1; have hzhb1 := (hb1).size; (try simp at hzhb1))
    go_ret
    exact ⟨rfl, hb1⟩
end Go.Proofs.Ytahajbejbijkpaa
