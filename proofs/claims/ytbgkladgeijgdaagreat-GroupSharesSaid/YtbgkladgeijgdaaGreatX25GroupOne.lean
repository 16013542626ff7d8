/- Members of a group: how they lie in memory; group.Check. -/
import Derived.Test.YtbgkladgeijgdaaGreatX24GroupOne
import Derived.LoopN
set_option linter.unusedVariables false
set_option linter.unusedSimpArgs false
namespace Go.Proofs.YtbgkladgeijgdaaGreat
open Go.RowKit Go.Maps Go.Deep

def fRt : Flds Tryz.prog [fld "Closing" 3 0 0, fld "Average" 3 1 8, fld "Old" 3 2 16] 0 (Int × Int × Int × Unit) :=
  Flds.cons (f := fld "Closing" 3 0 0) tInt rfl (Flds.cons (f := fld "Average" 3 1 8) tInt rfl (Flds.cons (f := fld "Old" 3 2 16) tInt rfl (Flds.nil _ _)))
def tRt : Ty Tryz.prog 65 (Int × Int × Int × Unit) := Ty.struct Tryz.underlying65 fRt (by kernel_rfl)
def fMb : Flds Tryz.prog [fld "Entity" 3 0 0, fld "Share" 3 1 8, fld "Rates" 65 2 16] 0 (Int × Int × (Int × Int × Int × Unit) × Unit) :=
  Flds.cons (f := fld "Entity" 3 0 0) tInt rfl (Flds.cons (f := fld "Share" 3 1 8) tInt rfl (Flds.cons (f := fld "Rates" 65 2 16) tRt rfl (Flds.nil _ _)))
def Mb.mk' (x : Int × Int × (Int × Int × Int × Unit) × Unit) : Mb := ⟨x.1, x.2.1, x.2.2.1.1, x.2.2.1.2.1, x.2.2.1.2.2.1⟩
def tMb : Ty Tryz.prog 67 Mb := (Ty.struct Tryz.underlying67 fMb (by kernel_rfl)).map Mb.mk'
def tMbs : Ty Tryz.prog 24 (List Mb) := Ty.slice Tryz.underlying24 (by kernel_rfl) tMb (by decide)
theorem tMb_n : tMb.n = 5 := rfl
def Mb.wf (m : Mb) : Prop := I64 m.en ∧ I64 m.sh ∧ I64 m.cl ∧ I64 m.av ∧ I64 m.ol
abbrev mbC (m : Mb) : List Value := [.int .i64 m.en, .int .i64 m.sh, .int .i64 m.cl, .int .i64 m.av, .int .i64 m.ol]
theorem mb_inv {w : World} {F : Nat → Prop} {cs : List Value} {m : Mb} (h : tMb.R w F cs m) : cs = mbC m ∧ m.wf := by
  obtain ⟨x, rfl, c1, c2, rfl, ⟨rfl, h1⟩, c3, c4, rfl, ⟨rfl, h2⟩, c5, c6, rfl, ⟨c7, c8, rfl, ⟨rfl, h3⟩, c9, c10, rfl, ⟨rfl, h4⟩, c11, c12, rfl, ⟨rfl, h5⟩, rfl⟩, rfl⟩ := h
  exact ⟨rfl, h1, h2, h3, h4, h5⟩
theorem mb_mk {w : World} {F : Nat → Prop} (m : Mb) (h : m.wf) : tMb.R w F (mbC m) m :=
  ⟨(m.en, m.sh, (m.cl, m.av, m.ol, ()), ()), rfl, [_], [_, _, _, _], rfl, ⟨rfl, h.1⟩, [_], [_, _, _], rfl, ⟨rfl, h.2.1⟩, [_, _, _], [], rfl, ⟨[_], [_, _], rfl, ⟨rfl, h.2.2.1⟩, [_], [_], rfl, ⟨rfl, h.2.2.2.1⟩, [_], [], rfl, ⟨rfl, h.2.2.2.2⟩, rfl⟩, rfl⟩
theorem mb_at {w : World} {F : Nat → Prop} {a : Option Addr} {l : List Mb} (h : Sl tMb w F a l) (i : Nat) (hi : i < l.length) :
    ∃ ad, a = some ad ∧ F ad.block ∧ ad.block < w.heap.size ∧ w.cell? (ad.add (i * 5)) = some (.int .i64 l[i].en) ∧ w.cell? ⟨(ad.add (i * 5)).block, (ad.add (i * 5)).off + 1, none⟩ = some (.int .i64 l[i].sh) ∧
      w.cell? ⟨(ad.add (i * 5)).block, (ad.add (i * 5)).off + 2, none⟩ = some (.int .i64 l[i].cl) ∧ w.cell? ⟨(ad.add (i * 5)).block, (ad.add (i * 5)).off + 3, none⟩ = some (.int .i64 l[i].av) ∧
      w.cell? ⟨(ad.add (i * 5)).block, (ad.add (i * 5)).off + 4, none⟩ = some (.int .i64 l[i].ol) ∧ l[i].wf := by
  obtain ⟨ad, ces, rfl, hf, hlt, hc, hr⟩ := h i l[i] (List.getElem?_eq_getElem hi)
  obtain ⟨rfl, h1⟩ := mb_inv hr
  rw [tMb_n] at hc
  refine ⟨ad, rfl, hf, hlt, ?_, ?_, ?_, ?_, ?_, h1⟩
  · have := hc 0 _ rfl
    simpa [Addr.add] using this
  · have := hc 1 _ rfl
    rw [Addr.add] at this
    simpa using this
  · have := hc 2 _ rfl
    rw [Addr.add] at this
    simpa using this
  · have := hc 3 _ rfl
    rw [Addr.add] at this
    simpa using this
  · have := hc 4 _ rfl
    rw [Addr.add] at this
    simpa using this
abbrev mbv (m : Mb) : Value := .agg #[.int .i64 m.en, .int .i64 m.sh, .int .i64 m.cl, .int .i64 m.av, .int .i64 m.ol]

/-- may a member be, behind one of that number? -/
def okM (last : Int) (m : Mb) : Bool := decide (last < m.en) && (decide (m.en ≤ 9) && (decide (0 ≤ m.sh) && (decide (m.sh ≤ 10000) && mbB m)))
def gck : Int → List Mb → Bool
  | _, [] => true
  | last, m :: r => okM last m && gck m.en r
def grpB (ms : List Mb) : Bool := decide (1 ≤ ms.length) && (decide (ms.length ≤ 9) && gck 0 ms)
def lastE : Int → List Mb → Int
  | last, [] => last
  | _, m :: r => lastE m.en r
theorem lastE_snoc : ∀ (ms : List Mb) (last : Int) (m : Mb), lastE last (ms ++ [m]) = m.en
  | [], _, _ => rfl
  | x :: r, _, m => lastE_snoc r x.en m
theorem gck_app : ∀ (xs ys : List Mb) (last : Int), gck last (xs ++ ys) = (gck last xs && gck (lastE last xs) ys)
  | [], _, _ => rfl
  | x :: r, ys, last => by
    show (okM last x && gck x.en (r ++ ys)) = _
    rw [gck_app r ys x.en]
    show _ = ((okM last x && gck x.en r) && gck (lastE x.en r) ys)
    rw [Bool.and_assoc]
theorem gck_succ (l : List Mb) (n : Nat) (hn : n < l.length) : gck 0 (l.take (n + 1)) = (gck 0 (l.take n) && okM (lastE 0 (l.take n)) l[n]) := by
  rw [List.take_succ_eq_append_getElem hn, gck_app]
  simp [gck]
theorem lastE_succ (l : List Mb) (n : Nat) (hn : n < l.length) : lastE 0 (l.take (n + 1)) = l[n].en := by
  rw [List.take_succ_eq_append_getElem hn, lastE_snoc]
theorem gck_no (l : List Mb) (n : Nat) (hn : n < l.length) (h : okM (lastE 0 (l.take n)) l[n] = false) : gck 0 l = false := by
  have e : l = l.take n ++ l.drop n := (List.take_append_drop n l).symm
  rw [e, gck_app, List.drop_eq_getElem_cons hn]
  simp only [gck]
  rw [h]
  simp
theorem okM_cases {last : Int} {m : Mb} {b : Bool} (h : okM last m = b) : (b = false ∧ (m.en ≤ last ∨ last < m.en ∧ (9 < m.en ∨ m.en ≤ 9 ∧ (m.sh < 0 ∨ 0 ≤ m.sh ∧ (10000 < m.sh ∨ m.sh ≤ 10000 ∧ mbB m = false))))) ∨
    (b = true ∧ last < m.en ∧ m.en ≤ 9 ∧ 0 ≤ m.sh ∧ m.sh ≤ 10000 ∧ mbB m = true) := by
  subst h
  unfold okM
  cases mbB m <;> by_cases h1 : last < m.en <;> by_cases h2 : m.en ≤ 9 <;> by_cases h3 : 0 ≤ m.sh <;> by_cases h4 : m.sh ≤ 10000 <;> simp [h1, h2, h3, h4] <;> omega
theorem rtsE_mb (m : Mb) : rtsE m.cl m.av m.ol = if mbB m then 0 else 1 := rfl
set_option maxHeartbeats 4000000 in
set_option maxRecDepth 100000 in
theorem grCheck_any (l : List Mb) (a : Option Addr) (cap : Nat) (w : World) {F : Nat → Prop} (hs : Sl tMb w F a l) (hl : l.length ≤ maxLen) :
    Calls Tryz.prog 11 #[.slice a l.length cap] w fun e w' => e = .returned (.int .i64 (if grpB l then 0 else 1)) ∧ Below w.heap.size w w' := by
  have HS := Lib.hid hs
  have hl' : l.length ≤ 9223372036854775807 := by unfold maxLen at hl; omega
  clear hs hl
  generalize hE : (if grpB l then (0 : Int) else 1) = er
  have HE := Lib.hid hE
  clear hE
  rcases (show l.length < 1 ∨ 1 ≤ l.length ∧ (9 < l.length ∨ l.length ≤ 9) by omega) with h | ⟨h, h2 | h2⟩
  · have HR : Hid (er = 1) := Lib.hid (by rw [← HE.out]; unfold grpB; rw [show decide (1 ≤ l.length) = false by simpa using h]; rfl)
    go_enter Tryz.func11, Tryz.ntmps11
    go_wp2_with fail
    go_ret
    rw [HR.out]
    exact ⟨rfl, Below.refl _ _⟩
  · have HR : Hid (er = 1) := Lib.hid (by rw [← HE.out]; unfold grpB; rw [show decide (l.length ≤ 9) = false by simpa using h2]; simp)
    go_enter Tryz.func11, Tryz.ntmps11
    go_wp2_with fail
    go_ret
    rw [HR.out]
    exact ⟨rfl, Below.refl _ _⟩
  · have HG : Hid (er = if gck 0 l then 0 else 1) := Lib.hid (by rw [← HE.out]; unfold grpB; rw [show decide (1 ≤ l.length) = true by simpa using h, show decide (l.length ≤ 9) = true by simpa using h2]; rfl)
    go_enter Tryz.func11, Tryz.ntmps11
    go_wp2_with fail
    go_loopw [3, 16] (fun vl vi wr => ∃ n : Nat, n ≤ l.length ∧ vl = .int .i64 (lastE 0 (l.take n)) ∧ vi = .int .i64 n ∧ Hid (gck 0 (l.take n) = true) ∧ Below w.heap.size w wr) (fun _ vi _ => l.length - (intOf vi).toNat)
    case atStart => exact ⟨0, Nat.zero_le _, rfl, rfl, Lib.hid rfl, Below.refl _ _⟩
    case round =>
      obtain ⟨n, hn, rfl, rfl, hok, hb⟩ := hrel
      have HB := Lib.hid hb
      clear hb
      by_cases hlt : n < l.length
      · obtain ⟨ad, rfl, _, hadl, hc0, hc1, hc2, hc3, hc4, _⟩ := mb_at (Sl.keep (fun k hk _ => HB.out.block k hk) HS.out) n hlt
        have HSU := Lib.hid (gck_succ l n hlt)
        have HLA := Lib.hid (lastE_succ l n hlt)
        have HNO := Lib.hid (gck_no l n hlt)
        generalize l[n] = m at *
        generalize lastE 0 (l.take n) = la at *
        obtain ⟨en, sh, cl, av, ol⟩ := m
        simp only at hc0 hc1 hc2 hc3 hc4
        have HZ := Lib.hid (blk_new wr (.cells #[.int .i64 en, .int .i64 sh, .int .i64 cl, .int .i64 av, .int .i64 ol] 67))
        have HW := Lib.hid (HB.out.alloc HB.out.size (.cells #[.int .i64 en, .int .i64 sh, .int .i64 cl, .int .i64 av, .int .i64 ol] 67))
        have HK := Lib.hid (fun W => by
          have := fxCheck_any cl av ol W
          rw [rtsE_mb ⟨en, sh, cl, av, ol⟩] at this
          exact this)
        cases hv : okM la ⟨en, sh, cl, av, ol⟩
        · have HR : Hid (er = 1) := Lib.hid (by rw [HG.out, HNO.out hv]; rfl)
          obtain ⟨_, hcs⟩ := (okM_cases hv).resolve_right (fun h => by cases h.1)
          simp only at hcs
          clear hv
          rcases hcs with h1 | ⟨h1, h3 | ⟨h3, h4 | ⟨h4, h5 | ⟨h5, h6⟩⟩⟩⟩
          iterate 4
            · skip
              go_wp2_with fail
              go_ret
              rw [HR.out]
              exact ⟨rfl, HW.out⟩
          · rw [h6] at HK
            clear h6
            go_wp2_with fail
            refine (HK.out _).mono ?_
            rintro en2 w2 ⟨rfl, hb⟩
            have HB2 := Lib.hid (belows_then HW.out HW.out.size hb)
            clear hb
            go_wp2_with fail
            go_ret
            rw [HR.out]
            exact ⟨rfl, HB2.out⟩
        · obtain ⟨_, h1, h3, h4, h5, h6⟩ := (okM_cases hv).resolve_left (fun h => by cases h.1)
          simp only at h1 h3 h4 h5
          rw [h6] at HK
          have HN : Hid (gck 0 (l.take (n + 1)) = true) := Lib.hid (by rw [HSU.out, hok.out, hv]; rfl)
          clear hv h6
          go_wp2_with fail
          refine (HK.out _).mono ?_
          rintro en2 w2 ⟨rfl, hb⟩
          have HB2 := Lib.hid (belows_then HW.out HW.out.size hb)
          have hz := blk_cells (blk_below HZ.out hb)
          clear hb
          go_wp2_with fail
          go_roundw
          case rel => exact ⟨n + 1, by omega, by rw [HLA.out], by go_num, HN, HB2.out⟩
          case measure => simp [intOf]; omega
      · have HL : Hid (l.take n = l) := Lib.hid (take_all hn hlt)
        have HR : Hid (er = 0) := Lib.hid (by rw [HG.out]; have := hok.out; rw [HL.out] at this; rw [this]; rfl)
        go_wp2_with fail
        go_ret
        rw [HR.out]
        exact ⟨rfl, HB.out⟩
end Go.Proofs.YtbgkladgeijgdaaGreat


/- group: inner (is an entity a member?). -/
set_option linter.unusedVariables false
set_option linter.unusedSimpArgs false
namespace Go.Proofs.YtbgkladgeijgdaaGreat
open Go.RowKit Go.Maps Go.Deep

set_option maxHeartbeats 2000000 in
set_option maxRecDepth 100000 in
theorem inner1_is (m : Mb) (e : Int) (b : Nat) (w : World) (hb : w.heap[b]? = some (.cells #[.int .i64 e] 3 (0, 0))) {r : Bool} (hr : (m.en == e) = r) :
    Calls Tryz.prog 149 #[mbv m, .pointer (some ⟨b, 0, none⟩)] w fun en w' => en = .returned (.bool r) ∧ Below w.heap.size w w' := by
  obtain ⟨en, sh, cl, av, ol⟩ := m
  simp only at hr
  have hc := blk_cells hb
  have hl := blk_lt hb
  clear hb
  have HB := Lib.hid ((Below.refl w.heap.size w).alloc (Nat.le_refl _) (.cells #[.int .i64 en, .int .i64 sh, .int .i64 cl, .int .i64 av, .int .i64 ol] 67))
  cases r
  all_goals
    go_enter Tryz.func149, Tryz.ntmps149
    go_wp2_with fail
    go_ret
    exact ⟨rfl, HB.out⟩

set_option maxHeartbeats 2000000 in
set_option maxRecDepth 100000 in
theorem indexM_any (l : List Mb) (a : Option Addr) (cap : Nat) (e : Int) (b : Nat) (w : World) {F : Nat → Prop} (hs : Sl tMb w F a l) (hl : l.length ≤ maxLen) (hb : w.heap[b]? = some (.cells #[.int .i64 e] 3 (0, 0))) :
    Calls Tryz.prog 166 #[.slice a l.length cap, .func (.func 149) #[] #[.pointer (some ⟨b, 0, none⟩)]] w (IdxPost w (innB l e)) := by
  have HS := Lib.hid hs
  have HBL := Lib.hid hb
  have hl' : l.length ≤ 9223372036854775807 := by unfold maxLen at hl; omega
  clear hs hl hb
  generalize hres : innB l e = res
  have HR := Lib.hid hres
  clear hres
  go_enter Tryz.func166, Tryz.ntmps166
  go_wp2_with fail
  go_loopw [8] (fun vi wr => ∃ n : Nat, n ≤ l.length ∧ vi = .int .i64 n ∧ Hid ((l.take n).any (fun m => m.en == e) = false) ∧ Below w.heap.size w wr) (fun vi _ => l.length - (intOf vi).toNat)
  case atStart => exact ⟨0, Nat.zero_le _, rfl, rfl, Below.refl _ _⟩
  case round =>
    obtain ⟨n, hn, rfl, hany, hb⟩ := hrel
    have HB1 := Lib.hid hb
    clear hb
    by_cases hlt : n < l.length
    · obtain ⟨ad, rfl, _, hadl, hc0, hc1, hc2, hc3, hc4, _⟩ := mb_at (Sl.keep (fun k hk _ => HB1.out.block k hk) HS.out) n hlt
      have HBW := Lib.hid (blk_below HBL.out HB1.out)
      go_wp2_with fail
      cases hv : (l[n].en == e)
      · refine (inner1_is l[n] e b _ HBW.out hv).mono ?_
        rintro e w2 ⟨rfl, hb⟩
        have HB2 := Lib.hid (belows_then HB1.out HB1.out.size hb)
        have HN : Hid (((l.take (n + 1)).any fun m => m.en == e) = false) := Lib.hid (by rw [any_take_succ (fun m : Mb => m.en == e) l n hlt, hany.out, hv]; rfl)
        clear hb hc0 hc1 hc2 hc3 hc4 hadl hv
        go_wp2_with fail
        go_roundw
        case rel => exact ⟨n + 1, by omega, by go_num, HN, HB2.out⟩
        case measure => simp [intOf]; omega
      · refine (inner1_is l[n] e b _ HBW.out hv).mono ?_
        rintro e w2 ⟨rfl, hb⟩
        have HB2 := Lib.hid (belows_then HB1.out HB1.out.size hb)
        have hr : res = true := by rw [← HR.out]; exact any_at (fun m : Mb => m.en == e) l n hlt hv
        have HRR := Lib.hid hr
        clear hb hc0 hc1 hc2 hc3 hc4 hadl hv hr
        go_wp2_with fail
        go_ret
        rw [HRR.out]
        exact ⟨⟨_, rfl, by simp⟩, HB2.out⟩
    · have hr : res = false := by
        rw [← HR.out]
        have := hany.out
        rwa [take_all hn hlt] at this
      have HRR := Lib.hid hr
      clear hr
      go_wp2_with fail
      go_ret
      rw [HRR.out]
      exact ⟨⟨_, rfl, by decide⟩, HB1.out⟩

set_option maxHeartbeats 2000000 in
theorem containsM_any (l : List Mb) (a : Option Addr) (cap : Nat) (e : Int) (b : Nat) (w : World) {F : Nat → Prop} (hs : Sl tMb w F a l) (hl : l.length ≤ maxLen) (hb : w.heap[b]? = some (.cells #[.int .i64 e] 3 (0, 0))) :
    Calls Tryz.prog 148 #[.slice a l.length cap, .func (.func 149) #[] #[.pointer (some ⟨b, 0, none⟩)]] w fun en w' => en = .returned (.bool (innB l e)) ∧ Below w.heap.size w w' := by
  have H := indexM_any l a cap e b w hs hl hb
  generalize innB l e = res at H ⊢
  have HH := Lib.hid H
  clear H hs hl hb
  go_enter Tryz.func148, Tryz.ntmps148
  go_wp2_with fail
  refine HH.out.mono ?_
  rintro en w' ⟨⟨k, rfl, hk⟩, hb⟩
  have HK := Lib.hid hk
  clear hk
  go_wp2_with fail
  go_ret
  rw [← HK.out]
  exact ⟨rfl, hb⟩

/-- a group's work behind a pointer: chart, book, period, members; what is done so far in the four lists behind -/
abbrev wkC (c g : Nat) (p : Int) (ma : Option Addr) (ms : List Mb) (mc : Nat) (x4 x5 x6 x7 : Value) : Array Value :=
  #[.pointer (some ⟨c, 0, none⟩), .pointer (some ⟨g, 0, none⟩), .int .i64 p, .slice ma ms.length mc, x4, x5, x6, x7]
set_option maxHeartbeats 2000000 in
set_option maxRecDepth 100000 in
theorem grInner_any {w : World} {W : Nat} {c g : Nat} {p : Int} {ma : Option Addr} {ms : List Mb} {mc : Nat} {x4 x5 x6 x7 : Value} (hw : w.heap[W]? = some (.cells (wkC c g p ma ms mc x4 x5 x6 x7) 95 (0, 0))) {F : Nat → Prop} (hs : Sl tMb w F ma ms) (hl : ms.length ≤ maxLen) (e : Int) :
    Calls Tryz.prog 124 #[.pointer (some ⟨W, 0, none⟩), .int .i64 e] w fun en w' => en = .returned (.bool (innB ms e)) ∧ Below w.heap.size w w' := by
  have hwl := blk_lt hw
  have HW := Lib.hid (blk_alloc hw (.cells #[.int .i64 e] 3))
  have hcc := blk_cells HW.out
  have HS := Lib.hid (Sl.keep (w' := w.alloc (.cells #[.int .i64 e] 3)) (fun k hk _ => Below.heap_alloc w _ k hk) hs)
  have HN := Lib.hid (blk_new w (.cells #[.int .i64 e] 3))
  have HB := Lib.hid ((Below.refl w.heap.size w).alloc (Nat.le_refl _) (.cells #[.int .i64 e] 3))
  have HC := Lib.hid (containsM_any ms ma mc e w.heap.size _ HS.out hl HN.out)
  have hmf : ∀ (fn : Fn) (first cap : Array Value) (w : World), (Instr.makeFunc fn first cap).run Tryz.prog w = .ok (.func fn first cap) w := fun _ _ _ _ => rfl
  clear hw hs
  go_enter Tryz.func124, Tryz.ntmps124
  go_wp2_with fail
  refine HC.out.mono ?_
  rintro en w1 ⟨rfl, hb⟩
  have HB1 := Lib.hid (belows_then HB.out (by simp) hb)
  clear hb
  go_wp2_with fail
  go_ret
  exact ⟨rfl, HB1.out⟩
end Go.Proofs.YtbgkladgeijgdaaGreat


/- sheet: the maker's steps: what is owned, owed, held. -/
set_option linter.unusedVariables false
set_option linter.unusedSimpArgs false
namespace Go.Proofs.YtbgkladgeijgdaaGreat
open Go.RowKit Go.Maps Go.Deep
variable {tb : Obj}

end Go.Proofs.YtbgkladgeijgdaaGreat


/- sheet: the maker's steps: what is retained, what this year came to. -/
set_option linter.unusedVariables false
set_option linter.unusedSimpArgs false
namespace Go.Proofs.YtbgkladgeijgdaaGreat
open Go.RowKit Go.Maps Go.Deep
variable {tb : Obj}

/-- what the years ahead came to; what this year did -/
def retT (r : List Ac) (J : List Jn) (e p : Int) : Int × Int := if janOf p == 0 then (0, 0) else ((incM r J e 0 (janOf p - 1)).1.2.2, (incM r J e 0 (janOf p - 1)).2)
def curT (r : List Ac) (J : List Jn) (e p : Int) : Int × Int := ((incM r J e (janOf p) p).1.2.2, (incM r J e (janOf p) p).2)
theorem jan_bd {p : Int} (hp : monthOk p = true) : 0 ≤ janOf p ∧ janOf p ≤ p ∧ p ≤ 1199 := by
  have hb : 0 ≤ p ∧ p ≤ 1199 := by simpa [monthOk] using hp
  unfold janOf
  omega

end Go.Proofs.YtbgkladgeijgdaaGreat


/- sheet: the maker's last step: what stands in accounts that are none. -/
set_option linter.unusedVariables false
set_option linter.unusedSimpArgs false
namespace Go.Proofs.YtbgkladgeijgdaaGreat
open Go.RowKit Go.Maps Go.Deep
variable {tb : Obj}

def outB (r : List Ac) (x : Int × Int) : Bool := (findA r x.1).isNone
def othL (r : List Ac) (l : List (Int × Int)) : List (Int × Int) := (l.filter (outB r)).map negB

end Go.Proofs.YtbgkladgeijgdaaGreat


/- sheet.Make: the sheet of an entity at the end of a period. -/
set_option linter.unusedVariables false
set_option linter.unusedSimpArgs false
namespace Go.Proofs.YtbgkladgeijgdaaGreat
open Go.RowKit Go.Maps Go.Deep

def owT (r : List Ac) (l : List (Int × Int)) : Int × Int := addM ((l.filter (pickB r [1])).map (·.2))
def oeT (r : List Ac) (l : List (Int × Int)) : Int × Int := addM (((l.filter (pickB r [2])).map negB).map (·.2))
def heT (r : List Ac) (l : List (Int × Int)) : Int × Int := addM (((l.filter (pickB r [3])).map negB).map (·.2))
def otT (r : List Ac) (l : List (Int × Int)) : Int × Int := addM ((othL r l).map (·.2))
/-- the error of a sheet -/
def shE (r : List Ac) (J : List Jn) (e p : Int) : Int :=
  if (balT J e 0 p).2 != 0 then (balT J e 0 p).2 else if (owT r (balT J e 0 p).1).2 != 0 then (owT r (balT J e 0 p).1).2 else if (oeT r (balT J e 0 p).1).2 != 0 then (oeT r (balT J e 0 p).1).2 else
  if (heT r (balT J e 0 p).1).2 != 0 then (heT r (balT J e 0 p).1).2 else if (retT r J e p).2 != 0 then (retT r J e p).2 else if (curT r J e p).2 != 0 then (curT r J e p).2 else (otT r (balT J e 0 p).1).2
/-- its six sums, and the error -/
def shT (r : List Ac) (J : List Jn) (e p : Int) : (Int × Int × Int × Int × Int × Int) × Int :=
  if shE r J e p != 0 then ((0, 0, 0, 0, 0, 0), shE r J e p) else (((owT r (balT J e 0 p).1).1, (oeT r (balT J e 0 p).1).1, (heT r (balT J e 0 p).1).1, (retT r J e p).1, (curT r J e p).1, (otT r (balT J e 0 p).1).1), 0)
/-- what Make tells -/
def ShP (w : World) (n1 : Nat) (t : (Int × Int × Int × Int × Int × Int) × Int) (en : Ending) (w' : World) : Prop :=
  ∃ a1 m1 c1 a2 m2 c2 a3 m3 c3, en = .returned (.tuple #[.agg #[.slice a1 m1 c1, .slice a2 m2 c2, .slice a3 m3 c3, .int .i64 t.1.1, .int .i64 t.1.2.1, .int .i64 t.1.2.2.1, .int .i64 t.1.2.2.2.1, .int .i64 t.1.2.2.2.2.1, .int .i64 t.1.2.2.2.2.2], .int .i64 t.2]) ∧
    (t.2 = 0 → m1 = n1) ∧ (t.2 ≠ 0 → m1 = 0 ∧ m2 = 0 ∧ m3 = 0) ∧ Below w.heap.size w w'
/-- what Make tells, with the lists -/
def ShL (w : World) (X1 X2 X3 : List (Int × Int)) (t : (Int × Int × Int × Int × Int × Int) × Int) (en : Ending) (w' : World) : Prop :=
  ∃ a1 m1 c1 a2 m2 c2 a3 m3 c3, en = .returned (.tuple #[.agg #[.slice a1 m1 c1, .slice a2 m2 c2, .slice a3 m3 c3, .int .i64 t.1.1, .int .i64 t.1.2.1, .int .i64 t.1.2.2.1, .int .i64 t.1.2.2.2.1, .int .i64 t.1.2.2.2.2.1, .int .i64 t.1.2.2.2.2.2], .int .i64 t.2]) ∧
    (t.2 = 0 → (m1 = X1.length ∧ m2 = X2.length ∧ m3 = X3.length) ∧ (∀ p ∈ [(Value.slice a3 m3 c3, X3), (.slice a2 m2 c2, X2), (.slice a1 m1 c1, X1)], OwnL tBal w' w.heap.size p.1 p.2) ∧ [(Value.slice a3 m3 c3, X3), (.slice a2 m2 c2, X2), (.slice a1 m1 c1, X1)].Pairwise (fun p q => p.1.ownBlock = none ∨ p.1.ownBlock ≠ q.1.ownBlock)) ∧
    (t.2 ≠ 0 → Value.slice a1 m1 c1 = .slice none 0 0 ∧ Value.slice a2 m2 c2 = .slice none 0 0 ∧ Value.slice a3 m3 c3 = .slice none 0 0) ∧ Below w.heap.size w w'
theorem nine (w : World) (b : Nat) {t : TypeId} {x0 x1 x2 x3 x4 x5 x6 x7 x8 : Value} (h : w.heap[b]? = some (.cells #[x0, x1, x2, x3, x4, x5, x6, x7, x8] t (0, 0))) (v0 v1 v2 v3 v4 v5 v6 v7 v8 : Value) :
    ∃ w4, (((((((((w.setCell ⟨b, 0, none⟩ v0).setCell ⟨b, 1, none⟩ v1).setCell ⟨b, 2, none⟩ v2).setCell ⟨b, 3, none⟩ v3).setCell ⟨b, 4, none⟩ v4).setCell ⟨b, 5, none⟩ v5).setCell ⟨b, 6, none⟩ v6).setCell ⟨b, 7, none⟩ v7).setCell ⟨b, 8, none⟩ v8) = w4 ∧ w4.heap[b]? = some (.cells #[v0, v1, v2, v3, v4, v5, v6, v7, v8] t (0, 0)) ∧ w4.heap.size = w.heap.size ∧
      (∀ k, k ≠ b → w4.heap[k]? = w.heap[k]?) ∧ (∀ B w0, Below B w0 w → B ≤ b → Below B w0 w4) := by
  refine ⟨_, rfl, ?_, by simp, fun k hk => ?_, fun B w0 hb hB => ?_⟩
  · have := blk_set (blk_set (blk_set (blk_set (blk_set (blk_set (blk_set (blk_set (blk_set h 0 v0) 1 v1) 2 v2) 3 v3) 4 v4) 5 v5) 6 v6) 7 v7) 8 v8
    simpa using this
  · iterate 9 (rw [Below.heap_setCell _ _ _ k hk])
  · iterate 9 (refine Below.setCell ?_ hB _)
    exact hb
theorem trans_below {w0 w : World} {b : Nat} {o : Obj} (h : w0.heap[b]? = some o) (hb : Below w0.heap.size w0 w) : w.heap[b]? = some o := blk_below h hb

end Go.Proofs.YtbgkladgeijgdaaGreat
