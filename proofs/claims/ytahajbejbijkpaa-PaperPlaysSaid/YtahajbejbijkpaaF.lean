/- The law PaperAuthors, walked. -/
import Derived.Test.YtahajbejbijkpaaD
import Derived.Test.YtahajbejbijkpaaK
import Derived.Deep.LoopGhost
set_option linter.unusedVariables false
set_option linter.unusedSimpArgs false
namespace Go.Proofs.Ytahajbejbijkpaa
open Go.RowKit

theorem toList_data (s : ByteArray) : s.toList = s.data.toList := ByteArray.toList_eq s
theorem eq_of (s t : ByteArray) (h : s.toList = t.toList) : s = t := by
  rw [toList_data, toList_data] at h
  exact ByteArray.ext (Array.toList_inj.1 h)

/-- What holds of a paper behind whatever was done: which version, and whose, it was handed in. -/
def Inv (p : Pap) (at_ : Int) (who : ByteArray) : Prop :=
  0 ≤ p.st ∧ p.st ≤ 3 ∧ (p.st = 1 ∨ p.st = 2 → p.co = at_ ∧ p.au = who ∧ who.toList ≠ []) ∧ (p.st = 2 → p.by'.toList ≠ who.toList ∧ p.by'.toList ≠ [])

theorem Inv.zero : Inv ⟨0, 0, ⟨#[]⟩, ⟨#[]⟩⟩ 0 ⟨#[]⟩ := by refine ⟨?_, ?_, ?_, ?_⟩ <;> simp

theorem Inv.submit {p : Pap} {at_ : Int} {who : ByteArray} (h : Inv p at_ who) (c : Int) (u : ByteArray) :
    (p.submit c u = (⟨1, c, ⟨#[]⟩, u⟩, 0) ∧ Inv ⟨1, c, ⟨#[]⟩, u⟩ c u) ∨ ((p.submit c u).2 ≠ 0 ∧ Inv (p.submit c u).1 at_ who) := by
  unfold Pap.submit
  split
  · exact .inr ⟨by simp, h⟩
  · split
    · exact .inr ⟨by simp, h⟩
    · rename_i h1 h2
      simp at h2
      refine .inl ⟨rfl, ?_⟩
      refine ⟨?_, ?_, ?_, ?_⟩ <;> simp
      exact h2.2

theorem Inv.approve {p : Pap} {at_ : Int} {who : ByteArray} (h : Inv p at_ who) (u : ByteArray) :
    ((p.approve u).2 = 0 ∧ Inv (p.approve u).1 at_ who ∧ u.toList ≠ who.toList) ∨ ((p.approve u).2 ≠ 0 ∧ Inv (p.approve u).1 at_ who) := by
  unfold Pap.approve Pap.decide
  split
  · exact .inr ⟨by simp, h⟩
  · split
    · exact .inr ⟨by simp, h⟩
    · split
      · rename_i h3
        exact .inr ⟨by simpa using h3, h⟩
      · rename_i h1 h2 h3
        simp [Pap.other] at h1 h2 h3
        obtain ⟨ha, hb, hc, hd⟩ := h
        obtain ⟨hc1, hc2, hc3⟩ := hc (.inl h2)
        refine .inl ⟨rfl, ⟨by simp, by simp, ?_, ?_⟩, ?_⟩
        · intro _
          exact ⟨hc1, hc2, hc3⟩
        · intro _
          rw [hc2] at h3
          exact ⟨h3, h1⟩
        · rw [← hc2]; exact h3

theorem Inv.reject {p : Pap} {at_ : Int} {who : ByteArray} (h : Inv p at_ who) (u : ByteArray) : Inv (p.reject u).1 at_ who := by
  unfold Pap.reject Pap.decide
  split
  · exact h
  · split
    · exact h
    · split
      · exact h
      · refine ⟨by simp, by simp, ?_, ?_⟩ <;> simp

theorem Inv.touch (at_ : Int) (who : ByteArray) : Inv ⟨0, 0, ⟨#[]⟩, ⟨#[]⟩⟩ at_ who := by refine ⟨?_, ?_, ?_, ?_⟩ <;> simp

theorem Inv.test {st co at_ : Int} {b a who : ByteArray} (h : Inv ⟨st, co, b, a⟩ at_ who) :
    (st = 2 ∧ at_ = co ∧ who = a ∧ (b.toList == a.toList) = false ∧ b.toList.isEmpty = false) ∨ ((st == 2) = false ∧ 0 ≤ st ∧ st ≤ 3) := by
  obtain ⟨ha, hb, hc, hd⟩ := h
  by_cases h2 : st = 2
  · obtain ⟨h3, h4, _⟩ := hc (.inr h2)
    obtain ⟨h5, h6⟩ := hd h2
    simp only at h3 h4 h5 h6
    subst h3; subst h4
    exact .inl ⟨h2, rfl, rfl, by simpa using h5, by simpa using h6⟩
  · exact .inr ⟨by simpa using h2, ha, hb⟩

structure Opn where
  kind : Int
  com : Int
  user : ByteArray
def Opn.mk' (x : Int × Int × ByteArray × Unit) : Opn := ⟨x.1, x.2.1, x.2.2.1⟩

def tInt : Ty Try.prog 3 Int := Ty.int _ 3 .i64 Try.underlying3 (by kernel_rfl)
def tStr : Ty Try.prog 9 ByteArray := Ty.str _ 9 Try.underlying9 (by kernel_rfl)
def fOpn : Flds Try.prog [{ name := "Kind", type := 3, offset := 0, embedded := false, tag := "", pkgPath := "", byteOffset := 0 }, { name := "Commit", type := 3, offset := 1, embedded := false, tag := "", pkgPath := "", byteOffset := 8 }, { name := "User", type := 9, offset := 2, embedded := false, tag := "", pkgPath := "", byteOffset := 16 }] 0 (Int × Int × ByteArray × Unit) :=
  Flds.cons tInt rfl (Flds.cons tInt rfl (Flds.cons tStr rfl (Flds.nil _ _)))
def tOpn : Ty Try.prog 34 Opn := (Ty.struct Try.underlying34 fOpn (by kernel_rfl)).map Opn.mk'
def tOpns : Ty Try.prog 31 (List Opn) := Ty.slice Try.underlying31 (by kernel_rfl) tOpn (by decide)

theorem opn_inv {w : World} {cs : List Value} {o : Opn} (h : tOpn.R w cs o) : cs = [.int .i64 o.kind, .int .i64 o.com, .string o.user] ∧ o.user.size ≤ 140737488351232 := by
  obtain ⟨x, rfl, c1, c2, rfl, ⟨rfl, _⟩, c3, c4, rfl, ⟨rfl, _⟩, c5, c6, rfl, ⟨rfl, h3⟩, rfl⟩ := h
  exact ⟨rfl, h3⟩

theorem opn_at {w : World} {a : Option Addr} {l : List Opn} (h : Sl tOpn w a l) (i : Nat) (hi : i < l.length) :
    ∃ ad, a = some ad ∧ ad.block < w.heap.size ∧ w.cell? (ad.add (i * 3)) = some (.int .i64 l[i].kind) ∧ w.cell? ⟨(ad.add (i * 3)).block, (ad.add (i * 3)).off + 1, none⟩ = some (.int .i64 l[i].com) ∧
      w.cell? ⟨(ad.add (i * 3)).block, (ad.add (i * 3)).off + 2, none⟩ = some (.string l[i].user) ∧ l[i].user.size ≤ 140737488351232 := by
  obtain ⟨ad, ces, rfl, hlt, hc, hr⟩ := h i l[i] (List.getElem?_eq_getElem hi)
  obtain ⟨rfl, hs⟩ := opn_inv hr
  have hn : tOpn.n = 3 := rfl
  rw [hn] at hc
  refine ⟨ad, rfl, hlt, ?_, ?_, ?_, hs⟩
  · have := hc 0 _ rfl
    simpa [Addr.add] using this
  · have := hc 1 _ rfl
    rw [Addr.add] at this
    simpa using this
  · have := hc 2 _ rfl
    rw [Addr.add] at this
    simpa using this

/-- what a paper, its version and its name are behind each part of a round -/
structure St5 (w wr : World) (k : Nat) (p : Pap) : Prop where
  below : Below w.heap.size w wr
  ge : w.heap.size ≤ k
  blk : wr.heap[k]? = some (.cells #[.int .i64 p.st, .int .i64 p.co, .string p.by', .string p.au] 24 (0, 0))

theorem len60 {n : Nat} (h : ¬ n ≤ 60) : 60 < n := by omega

set_option maxHeartbeats 4000000 in
set_option maxRecDepth 100000 in
theorem authors_walk (a : Option Addr) (cap : Nat) (l : List Opn) (w : World) (hs : Sl tOpn w a l) (hl : l.length ≤ 60) :
    Calls Try.prog 5 #[.slice a l.length cap] w fun e w' => e = .returned (.bool true) ∧ Below w.heap.size w w' := by
  go_enter Try.func5, Try.ntmps5
  go_wp2_with fail
  refine (alive_any _).mono ?_
  rintro e w0 ⟨rfl, hb0⟩; obtain ⟨hchb0, hfhb0⟩ := bcell hb0; have hzhb0 := (hb0).size; (try simp at hzhb0)
  go_wp2_with fail
  have HS0 : St5 w (w0.alloc (.cells #[.int .i64 0, .int .i64 0, .string ⟨#[]⟩, .string ⟨#[]⟩] 24)) w0.heap.size ⟨0, 0, ⟨#[]⟩, ⟨#[]⟩⟩ := ⟨hb0.alloc hb0.size _, hb0.size, blk_new _ _⟩
  have HI0 := Inv.zero
  clear hchb0 hfhb0
  have HL := Lib.hid hs
  clear hs
  go_loopw [4, 5, 6] (fun vat vwho vi wr => ∃ (n : Nat) (p : Pap) (at_ : Int) (wh : ByteArray), n ≤ l.length ∧ vat = .int .i64 at_ ∧ vwho = .string wh ∧ vi = .int .i64 n ∧ Inv p at_ wh ∧ St5 w wr w0.heap.size p)
    (fun _ _ vi _ => l.length - (intOf vi).toNat)
  case atStart => exact ⟨0, _, 0, _, Nat.zero_le _, rfl, rfl, rfl, HI0, HS0⟩
  case round =>
    obtain ⟨n, p, at_, wh, hn, rfl, rfl, rfl, hI, hS⟩ := hrel
    clear HS0 HI0
    by_cases hlt : n < l.length
    · obtain ⟨ad, rfl, hadl, hc0, hc1, hc2, hus⟩ := opn_at (HL.out.keep hS.below) n hlt
      have hk := blk_lt hS.blk
      have hck := blk_cells hS.blk
      have hfk := blk_frz hS.blk
      go_wp2_with fail
      · go_ret
        exact ⟨rfl, hS.below.alloc hS.below.size _⟩
      · -- handed in
        refine (submit_any _ _ _ _ _ _ _ (by omega)).mono ?_
        rintro e w1 ⟨rfl, hb⟩
        have hk1 := blk_below (blk_alloc hS.blk _) hb
        have ho1 := blk_below (blk_new wr _) hb
        have HB1 : Below w.heap.size w w1 := belows_then (hS.below.alloc hS.below.size _) (Nat.le_trans hS.below.size (by simp)) hb
        have hl1 := blk_lt hk1
        have hl2 := blk_lt ho1
        have hne1 : ¬ wr.heap.size = w0.heap.size := by omega
        have hne2 : ¬ w0.heap.size = wr.heap.size := by omega
        have hck1 := blk_cells hk1
        have hfk1 := blk_frz hk1
        have hco1 := blk_cells ho1
        have hge := hS.ge
        have HK := Lib.hid hk1
        have HB := Lib.hid HB1
        clear hck hfk hc0 hc1 hc2 hb hk1 ho1 HB1 hk hS
        rcases hI.submit l[n].com l[n].user with ⟨h0, hI'⟩ | ⟨h0, hI'⟩
        · rw [h0]
          have HI := Lib.hid hI'
          clear h0 hI' hI
          go_wp2_with fail
          go_quiet (fail)
          go_wp2_with fail
          go_roundw
          case rel => exact ⟨n + 1, _, _, _, by omega, rfl, rfl, by go_num, HI.out, ⟨by repeat (first | (with_reducible exact HB.out) | (with_reducible refine Below.setCell ?_ hge _) | (with_reducible refine Below.drew ?_) | (with_reducible refine below_drewN ?_ _)), hge, by first | exact blk_set (blk_set (blk_set (blk_set HK.out 0 _) 1 _) 2 _) 3 _ | exact blk_drew (blk_set (blk_set (blk_set (blk_set HK.out 0 _) 1 _) 2 _) 3 _) _⟩⟩
          case measure => simp [intOf]; omega
        · generalize Pap.submit p l[n].com l[n].user = r at *
          obtain ⟨⟨st', co', b', a'⟩, er⟩ := r
          simp only at h0 hI'
          have h0' : (er == 0) = false := by simpa using h0
          clear h0 hI
          have HI := Lib.hid hI'
          rcases hI'.test with ⟨rfl, rfl, rfl, ht1, ht2⟩ | ⟨ht1, ht2, ht3⟩
          all_goals
            clear hI'
            go_wp2_with fail
            go_roundw
            case rel => exact ⟨n + 1, _, _, _, by omega, rfl, rfl, by go_num, HI.out, ⟨by repeat (first | (with_reducible exact HB.out) | (with_reducible refine Below.setCell ?_ hge _) | (with_reducible refine Below.drew ?_) | (with_reducible refine below_drewN ?_ _)), hge, by first | exact blk_set (blk_set (blk_set (blk_set HK.out 0 _) 1 _) 2 _) 3 _ | exact blk_drew (blk_set (blk_set (blk_set (blk_set HK.out 0 _) 1 _) 2 _) 3 _) _⟩⟩
            case measure => simp [intOf]; omega
      · -- approved
        refine (approve_any _ _ _ _ _ _ (by omega)).mono ?_
        rintro e w1 ⟨rfl, hb⟩
        have hk1 := blk_below (blk_alloc hS.blk _) hb
        have ho1 := blk_below (blk_new wr _) hb
        have HB1 : Below w.heap.size w w1 := belows_then (hS.below.alloc hS.below.size _) (Nat.le_trans hS.below.size (by simp)) hb
        have hl1 := blk_lt hk1
        have hl2 := blk_lt ho1
        have hne1 : ¬ wr.heap.size = w0.heap.size := by omega
        have hne2 : ¬ w0.heap.size = wr.heap.size := by omega
        have hck1 := blk_cells hk1
        have hfk1 := blk_frz hk1
        have hco1 := blk_cells ho1
        have hge := hS.ge
        have HK := Lib.hid hk1
        have HB := Lib.hid HB1
        clear hck hfk hc0 hc1 hc2 hb hk1 ho1 HB1 hk hS
        rcases hI.approve l[n].user with ⟨h0, hI', h1⟩ | ⟨h0, hI'⟩
        all_goals
          generalize Pap.approve p l[n].user = r at *
          obtain ⟨⟨st', co', b', a'⟩, er⟩ := r
          simp only at h0 hI'
          clear hI
        · subst h0
          have h1' : (l[n].user.toList == wh.toList) = false := by simpa using h1
          clear h1
          have HI := Lib.hid hI'
          rcases hI'.test with ⟨rfl, rfl, rfl, ht1, ht2⟩ | ⟨ht1, ht2, ht3⟩
          all_goals
            clear hI'
            go_wp2_with fail
            go_roundw
            case rel => exact ⟨n + 1, _, _, _, by omega, rfl, rfl, by go_num, HI.out, ⟨by repeat (first | (with_reducible exact HB.out) | (with_reducible refine Below.setCell ?_ hge _) | (with_reducible refine Below.drew ?_) | (with_reducible refine below_drewN ?_ _)), hge, by first | exact blk_set (blk_set (blk_set (blk_set HK.out 0 _) 1 _) 2 _) 3 _ | exact blk_drew (blk_set (blk_set (blk_set (blk_set HK.out 0 _) 1 _) 2 _) 3 _) _⟩⟩
            case measure => simp [intOf]; omega
        · have h0' : (er == 0) = false := by simpa using h0
          clear h0
          have HI := Lib.hid hI'
          rcases hI'.test with ⟨rfl, rfl, rfl, ht1, ht2⟩ | ⟨ht1, ht2, ht3⟩
          all_goals
            clear hI'
            go_wp2_with fail
            go_roundw
            case rel => exact ⟨n + 1, _, _, _, by omega, rfl, rfl, by go_num, HI.out, ⟨by repeat (first | (with_reducible exact HB.out) | (with_reducible refine Below.setCell ?_ hge _) | (with_reducible refine Below.drew ?_) | (with_reducible refine below_drewN ?_ _)), hge, by first | exact blk_set (blk_set (blk_set (blk_set HK.out 0 _) 1 _) 2 _) 3 _ | exact blk_drew (blk_set (blk_set (blk_set (blk_set HK.out 0 _) 1 _) 2 _) 3 _) _⟩⟩
            case measure => simp [intOf]; omega
      · refine (reject_any _ _ _ _ _ _ (by omega)).mono ?_
        rintro e w1 ⟨rfl, hb⟩
        have hk1 := blk_below (blk_alloc hS.blk _) hb
        have ho1 := blk_below (blk_new wr _) hb
        have HB1 : Below w.heap.size w w1 := belows_then (hS.below.alloc hS.below.size _) (Nat.le_trans hS.below.size (by simp)) hb
        have hl1 := blk_lt hk1
        have hl2 := blk_lt ho1
        have hne1 : ¬ wr.heap.size = w0.heap.size := by omega
        have hne2 : ¬ w0.heap.size = wr.heap.size := by omega
        have hck1 := blk_cells hk1
        have hfk1 := blk_frz hk1
        have hco1 := blk_cells ho1
        have hge := hS.ge
        have HK := Lib.hid hk1
        have HB := Lib.hid HB1
        clear hck hfk hc0 hc1 hc2 hb hk1 ho1 HB1 hk hS
        have hI' := hI.reject l[n].user
        generalize Pap.reject p l[n].user = r at *
        obtain ⟨⟨st', co', b', a'⟩, er⟩ := r
        simp only at hI'
        clear hI
        have HI := Lib.hid hI'
        rcases hI'.test with ⟨rfl, rfl, rfl, ht1, ht2⟩ | ⟨ht1, ht2, ht3⟩
        all_goals
          clear hI'
          go_wp2_with fail
          go_roundw
          case rel => exact ⟨n + 1, _, _, _, by omega, rfl, rfl, by go_num, HI.out, ⟨by repeat (first | (with_reducible exact HB.out) | (with_reducible refine Below.setCell ?_ hge _) | (with_reducible refine Below.drew ?_) | (with_reducible refine below_drewN ?_ _)), hge, by first | exact blk_set (blk_set (blk_set (blk_set HK.out 0 _) 1 _) 2 _) 3 _ | exact blk_drew (blk_set (blk_set (blk_set (blk_set HK.out 0 _) 1 _) 2 _) 3 _) _⟩⟩
          case measure => simp [intOf]; omega
      · refine (touch_any _ _ _ _ _).mono ?_
        rintro e w1 ⟨rfl, hb⟩
        have hk1 := blk_below (blk_alloc hS.blk _) hb
        have ho1 := blk_below (blk_new wr _) hb
        have HB1 : Below w.heap.size w w1 := belows_then (hS.below.alloc hS.below.size _) (Nat.le_trans hS.below.size (by simp)) hb
        have hl1 := blk_lt hk1
        have hl2 := blk_lt ho1
        have hne1 : ¬ wr.heap.size = w0.heap.size := by omega
        have hne2 : ¬ w0.heap.size = wr.heap.size := by omega
        have hck1 := blk_cells hk1
        have hfk1 := blk_frz hk1
        have hco1 := blk_cells ho1
        have hge := hS.ge
        have HK := Lib.hid hk1
        have HB := Lib.hid HB1
        clear hck hfk hc0 hc1 hc2 hb hk1 ho1 HB1 hk hS
        have HI := Lib.hid (Inv.touch at_ wh)
        clear hI
        go_wp2_with fail
        go_roundw
        case rel => exact ⟨n + 1, _, _, _, by omega, rfl, rfl, by go_num, HI.out, ⟨by repeat (first | (with_reducible exact HB.out) | (with_reducible refine Below.setCell ?_ hge _) | (with_reducible refine Below.drew ?_) | (with_reducible refine below_drewN ?_ _)), hge, by first | exact blk_set (blk_set (blk_set (blk_set HK.out 0 _) 1 _) 2 _) 3 _ | exact blk_drew (blk_set (blk_set (blk_set (blk_set HK.out 0 _) 1 _) 2 _) 3 _) _⟩⟩
        case measure => simp [intOf]; omega
    · go_wp2_with fail
      go_ret
      exact ⟨rfl, hS.below⟩

theorem authors_any (a : Option Addr) (len cap : Nat) (l : List Opn) (w : World) (h : tOpns.R w [.slice a len cap] l) :
    Calls Try.prog 5 #[.slice a len cap] w fun e w' => e = .returned (.bool true) ∧ Below w.heap.size w w' := by
  obtain ⟨a', cap', he, hs, h1, h2, h3⟩ := h
  simp only [List.cons.injEq, Value.slice.injEq, and_true] at he
  obtain ⟨rfl, rfl, rfl⟩ := he
  by_cases hl : l.length ≤ 60
  · exact authors_walk _ _ _ _ hs hl
  · have hl' := len60 hl
    clear hs h3
    unfold maxLen at h2
    go_enter Try.func5, Try.ntmps5
    go_wp2_with (go_at_call 6; refine (alive_any _).mono ?_; rintro e w1 ⟨rfl, hb1⟩; obtain ⟨hchb1, hfhb1⟩ := bcell hb1; have hzhb1 := (hb1).size; (try simp at hzhb1))
    go_ret
    exact ⟨rfl, hb1⟩
end Go.Proofs.Ytahajbejbijkpaa
