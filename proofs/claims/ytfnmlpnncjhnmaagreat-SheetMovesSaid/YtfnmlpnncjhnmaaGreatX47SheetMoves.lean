/- book.Of and law 10's Set again, told with the book's own memory. -/
import Derived.Test.YtfnmlpnncjhnmaaGreatX33SheetMoves
import Derived.Test.YtfnmlpnncjhnmaaGreatX36SheetMoves
import Derived.Test.YtfnmlpnncjhnmaaGreatX46SheetMoves
set_option linter.unusedVariables false
set_option linter.unusedSimpArgs false
namespace Go.Proofs.YtfnmlpnncjhnmaaGreat
open Go.RowKit Go.Maps

def OfO (w : World) (l : List Jn) (e : Ending) (w' : World) : Prop :=
  ((ofB l = true ∧ ∃ g v, e = .returned (.tuple #[.pointer (some ⟨g, 0, none⟩), .int .i64 0]) ∧ w.heap.size ≤ g ∧ BookOwn w' w.heap.size g v l) ∨
   (ofB l = false ∧ ∃ x : Int, (x != 0) = true ∧ e = .returned (.tuple #[.pointer none, .int .i64 x]))) ∧ Below w.heap.size w w'

set_option maxHeartbeats 8000000 in
set_option maxRecDepth 100000 in
theorem bofO_any (l : List Jn) (a : Option Addr) (cap : Nat) (w : World) {F : Nat → Prop} (hs : Sl tJn w F a l) (hl : l.length ≤ 1000) (hinc : IncJ l) :
    Calls Tryz.prog 108 #[.slice a l.length cap] w (OfO w l) := by
  have HS := Lib.hid hs
  have HI := Lib.hid hinc
  clear hs hinc
  have hz : (w.alloc (.cells #[.slice none 0 0] 152)).heap[w.heap.size]? = some (.cells #[.slice none 0 0] 152 (0, 0)) := blk_new w _
  have HB := Lib.hid ((Below.refl w.heap.size w).alloc (Nat.le_refl _) (.cells #[.slice none 0 0] 152))
  have H0 : Hid (BookOwn (w.alloc (.cells #[.slice none 0 0] 152)) w.heap.size w.heap.size (.slice none 0 0) []) := Lib.hid ⟨hz, Nat.le_refl _, OwnF.nil _ _ _⟩
  clear hz
  go_enter Tryz.func108, Tryz.ntmps108
  go_wp2_with fail
  go_loopw [15] (fun vi wr => ∃ (n : Nat) (v : Value), n ≤ l.length ∧ vi = .int .i64 n ∧ BookOwn wr w.heap.size w.heap.size v (l.take n) ∧ Below w.heap.size w wr ∧ OrdJ (l.take n) ∧ Hid (ofFrom (l.take n) (l.drop n) = ofB l)) (fun vi _ => l.length - (intOf vi).toNat)
  case atStart => exact ⟨0, _, Nat.zero_le _, rfl, H0.out, HB.out, ⟨fun i k h => by simp at h, fun x hx => by simp at hx⟩, Lib.hid rfl⟩
  case round =>
    obtain ⟨n, v, hn, rfl, hbk, hb, hO, hof⟩ := hrel
    have HK := Lib.hid hbk
    have HB1 := Lib.hid hb
    have HO := Lib.hid hO
    clear hbk hb hO H0
    by_cases hlt : n < l.length
    · obtain ⟨ad, la, lc, rfl, _, hadl, hc0, hc1, hc2, hc3, hc4, hc5, hr⟩ := jn_at (Sl.keep (fun k hk _ => HB1.out.block k hk) HS.out) n hlt
      have HR := Lib.hid (tJn.keep (w' := wr.alloc (.cells #[.int .i64 l[n].id, .int .i64 l[n].en, .int .i64 l[n].pe, .string l[n].ref, .slice la l[n].lines.length lc, .bool l[n].void] 88)) (fun k hk _ => Below.heap_alloc wr _ k hk) hr)
      have HBK : Hid (BookOwn (wr.alloc (.cells #[.int .i64 l[n].id, .int .i64 l[n].en, .int .i64 l[n].pe, .string l[n].ref, .slice la l[n].lines.length lc, .bool l[n].void] 88)) w.heap.size w.heap.size v (l.take n)) := Lib.hid (HK.out.below ((Below.refl _ _).alloc (Nat.le_refl _) _))
      have HBA := Lib.hid (HB1.out.alloc HB1.out.size (.cells #[.int .i64 l[n].id, .int .i64 l[n].en, .int .i64 l[n].pe, .string l[n].ref, .slice la l[n].lines.length lc, .bool l[n].void] 88))
      have HNEW := Lib.hid (inc_new HI.out hlt)
      have HSTEP := Lib.hid (ofFrom_step hlt)
      have hlen : (l.take n).length ≤ 1000 := by rw [List.length_take]; omega
      generalize hp : postJ (l.take n) l[n] = p
      have HP := Lib.hid hp
      clear hr hp
      go_wp2_with fail
      refine (post_end HBK.out HBA.out.size hlen HO.out l[n] la lc HR.out HNEW.out).mono ?_
      rintro e w2 ⟨rfl, hb, h1, h2⟩
      rw [HP.out] at h1 h2
      have HB2 := Lib.hid (HBA.out.trans hb)
      clear hb hc0 hc1 hc2 hc3 hc4 hc5 hadl
      by_cases hp0 : p = 0
      · subst hp0
        obtain ⟨v2, hk2⟩ := h2 rfl
        have HK2 := Lib.hid hk2
        have hpp := HP.out
        clear h1 h2 hk2
        rw [HP.out]
        clear hpp
        go_wp2_with fail
        go_roundw
        case rel => exact ⟨n + 1, v2, by omega, by go_num, by rw [List.take_succ_eq_append_getElem hlt]; exact HK2.out, HB2.out, ordJ_step HI.out hlt HO.out HP.out, Lib.hid (by rw [← hof.out, HSTEP.out, HP.out]; simp)⟩
        case measure => simp [intOf]; omega
      · have hq : (p != 0) = true := by simpa using hp0
        have HF : Hid (ofB l = false) := Lib.hid (by rw [← hof.out, HSTEP.out, HP.out]; simp [hp0])
        clear h1 h2
        rw [HP.out]
        go_wp2_with fail
        go_ret2
        exact ⟨.inr ⟨HF.out, p, hq, rfl⟩, HB2.out⟩
    · have HT : Hid (ofB l = true) := Lib.hid (by rw [← hof.out, List.drop_eq_nil_of_le (by omega)]; rfl)
      have HL : Hid (l.take n = l) := Lib.hid (take_all hn hlt)
      go_wp2_with fail
      go_ret2
      have hk := HK.out
      rw [HL.out] at hk
      exact ⟨.inl ⟨HT.out, w.heap.size, v, rfl, Nat.le_refl _, hk⟩, HB1.out⟩

theorem lofO_yes (l : List Jn) (a : Option Addr) (cap : Nat) (w : World) {F : Nat → Prop} (hs : Sl tJn w F a l) (hl : l.length ≤ 1000) (hinc : IncJ l) (h : ofB l = true) :
    Calls Tryz.prog 33 #[.slice a l.length cap] w fun e w' => ∃ g v, e = .returned (.pointer (some ⟨g, 0, none⟩)) ∧ w.heap.size ≤ g ∧ BookOwn w' w.heap.size g v l ∧ Below w.heap.size w w' := by
  have HC := Lib.hid (bofO_any l a cap w hs hl hinc)
  have HH := Lib.hid h
  clear hs hinc h
  go_enter Tryz.func33, Tryz.ntmps33
  go_wp2_with fail
  refine HC.out.mono ?_
  rintro e w' ⟨⟨ht, g, v, rfl, hg, hat⟩ | ⟨hf, x, hx, rfl⟩, hb⟩
  · have HA := Lib.hid hat
    clear ht hat
    go_wp2_with fail
    go_ret
    exact ⟨g, v, rfl, hg, HA.out, hb⟩
  · rw [HH.out] at hf
    cases hf
/-- wB: the world ahead of the book -/
def SetO (w : World) (r : List Ac) (J : List Jn) (e : Ending) (w' : World) : Prop :=
  ∃ (c g : Nat) (v : Value) (ra fa : Option Addr) (rc fc : Nat) (mb : Option Nat) (wB : World), e = .returned (.tuple #[.pointer (some ⟨c, 0, none⟩), .pointer (some ⟨g, 0, none⟩), .slice ra r.length rc, .slice fa J.length fc, .bool true]) ∧
    ChartAt wB c mb r ∧ BookOwn w' wB.heap.size g v J ∧ w.heap.size ≤ wB.heap.size ∧ Below wB.heap.size wB w' ∧ Sl tAc w' (fun _ => True) ra r ∧ Sl tJn w' (fun _ => True) fa J ∧ Below w.heap.size w w'

set_option maxHeartbeats 8000000 in
set_option maxRecDepth 100000 in
theorem setO_any (rows : List Ac) (a : Option Addr) (cap : Nat) (l : List Jn) (b : Option Addr) (bcap : Nat) (w : World) {F G : Nat → Prop} (hs : Sl tAc w F a rows) (hl : rows.length ≤ maxLen) (ht : Sl tJn w G b l) (hm : l.length ≤ maxLen) :
    Calls Tryz.prog 9 #[.slice a rows.length cap, .slice b l.length bcap] w (SetO w (setR rows) (fitJ 40 l)) := by
  have HS := Lib.hid hs
  have HT := Lib.hid ht
  have HV := Lib.hid (fit_val 40 l)
  have hlen : (fitJ 40 l).length ≤ 200 := HV.out.len
  have hl' : rows.length ≤ 9223372036854775807 := by unfold maxLen at hl; omega
  clear hs hl ht
  go_enter Tryz.func9, Tryz.ntmps9
  go_wp2_with fail
  go_loopw [9, 10, 11, 12] (fun vo vi v11 v12 wr => ∃ (n : Nat) (vx : Value) (r : List Ac), vx = vo ∧ n ≤ rows.length ∧ n ≤ 30 ∧ vi = .int .i64 n ∧ Hid (r = (rows.take n).foldl setStep []) ∧ OwnL tAc wr w.heap.size vx r ∧ Below w.heap.size w wr) (fun _ vi _ _ _ => rows.length - (intOf vi).toNat)
  case atStart => exact ⟨0, _, [], rfl, Nat.zero_le _, Nat.zero_le _, rfl, Lib.hid rfl, OwnL.nil _ _, Below.refl _ _⟩
  case round =>
    obtain ⟨n, vo, r, rfl, hn, hn30, rfl, hr, ho, hb⟩ := hrel
    have HG : Hid (GoodA r) := Lib.hid (by rw [hr.out]; exact setFold_good _ _ GoodA.nil)
    have hrl : r.length ≤ 30 := by
      rw [hr.out]
      have := setFold_len (rows.take n) []
      rw [List.length_take] at this
      simp only [List.length_nil] at this
      omega
    have HB := Lib.hid hb
    have HO := Lib.hid ho
    obtain ⟨ra, rc, rfl, hrc, hrm, hrs, hrn⟩ := ho.formA
    have HRS := Lib.hid hrs
    have HRN := Lib.hid hrn
    clear hb ho hrs hrn
    by_cases hlt : n < rows.length ∧ n < 30
    · obtain ⟨hlt, h30⟩ := hlt
      obtain ⟨ad, rfl, _, hadl, hc0, hc1, hc2, g0, g1⟩ := ac_at (HS.out.keep fun k hk _ => HB.out.block k hk) n hlt
      have G0 := Lib.hid g0
      have G1 := Lib.hid g1
      have HN0 : Hid ((rows.take (n + 1)).foldl setStep [] = setStep r rows[n]) := Lib.hid (by rw [fold_succA _ _ _ hlt, ← hr.out])
      clear g0 g1
      generalize rows[n] = x at *
      obtain ⟨er, her⟩ : ∃ er, addE r x = er := ⟨_, rfl⟩
      have HC := Lib.hid (add_any r ra rc x wr HRS.out HG.out (by omega) hrc hrm HRN.out G0.out G1.out)
      have HE := Lib.hid her
      clear her
      go_wp2_with fail
      refine HC.out.mono ?_
      rintro en w2 ⟨v', rfl, hok, hb⟩
      rw [HE.out] at hok ⊢
      have HOK := Lib.hid hok
      have HO2 := Lib.hid (HO.out.below hb)
      have HB2 := Lib.hid (belows_then HB.out HB.out.size hb)
      have HBS := HB.out.size
      clear hok hb
      cases her : er == 0
      · have HN1 : Hid (r = (rows.take (n + 1)).foldl setStep []) := Lib.hid (by rw [HN0.out]; unfold setStep; rw [HE.out, her]; rfl)
        go_wp2_with fail
        go_roundw
        case rel => exact ⟨n + 1, _, r, rfl, by omega, by omega, by go_num, HN1, HO2.out, HB2.out⟩
        case measure => simp [intOf]; omega
      · have HN1 : Hid (insA r x = (rows.take (n + 1)).foldl setStep []) := Lib.hid (by rw [HN0.out]; unfold setStep; rw [HE.out, her]; rfl)
        obtain rfl : er = 0 := by simpa using her
        have H3 := Lib.hid ((HOK.out rfl).mono HBS)
        clear her
        go_wp2_with fail
        go_roundw
        case rel => exact ⟨n + 1, _, insA r x, rfl, by omega, by omega, by go_num, HN1, H3.out, HB2.out⟩
        case measure => simp [intOf]; omega
    · have hd : (decide ((n : Int) < (rows.length : Int)) && decide ((n : Int) < 30)) = false := by simp; omega
      have HR : Hid (r = setR rows) := Lib.hid (by
        rw [hr.out]
        unfold setR
        rcases Nat.lt_or_ge n 30 with h | h
        · have : n = rows.length := by omega
          rw [this, List.take_length, List.take_of_length_le (by omega)]
        · have : n = 30 := by omega
          rw [this])
      have hcs : ¬ n < rows.length ∨ n < rows.length ∧ ¬ n < 30 := by omega
      clear hr
      rcases hcs with h1 | ⟨h1, h2⟩
      all_goals
        clear hlt hd
        go_wp2_with fail
        refine (fit_any l b bcap 40 wr (Sl.keep (fun k hk _ => HB.out.block k hk) HT.out) hm (by omega)).mono ?_
        rintro en w1 ⟨v, rfl, ho, hb⟩
        have HB1 := Lib.hid (belows_then HB.out HB.out.size hb)
        obtain ⟨fa, fc, rfl, _, _, hsl⟩ := ho.slice
        have HA := Lib.hid hsl
        have HRS1 := Lib.hid (Sl.keep (fun k hk _ => hb.block k hk) HRS.out)
        clear ho hb hsl
        generalize fitJ 40 l = J at *
        go_wp2_with fail
        refine (l3make_any r ra rc w1 HRS1.out (by omega) HG.out).mono ?_
        rintro en w2 ⟨rfl, mb, hc, hb⟩
        have HB2 := Lib.hid (belows_then HB1.out HB1.out.size hb)
        have HC2 := Lib.hid hc
        have HRS2 := Lib.hid (Sl.keep (fun k hk _ => hb.block k hk) HRS1.out)
        have HA2 := Lib.hid (Sl.keep (fun k hk _ => hb.block k hk) HA.out)
        clear hc hb
        go_wp2_with fail
        refine (lofO_yes J fa fc _ HA2.out (by omega) HV.out.incJ HV.out.of).mono ?_
        rintro en w3 ⟨g, v, rfl, hg, hat, hb⟩
        have HB3 := Lib.hid (belows_then HB2.out HB2.out.size hb)
        have HBW := Lib.hid hb
        have HRS3 := Lib.hid (Sl.keep (fun k hk _ => hb.block k hk) HRS2.out)
        have HA3 := Lib.hid (Sl.keep (fun k hk _ => hb.block k hk) HA2.out)
        have HAT := Lib.hid hat
        clear hb hat hg
        go_wp2_with fail
        refine bodyPost_ret (v := .tuple #[.pointer (some ⟨w1.heap.size, 0, none⟩), .pointer (some ⟨g, 0, none⟩), .slice ra r.length rc, .slice fa J.length fc, .bool true]) (by simp [results, Tryz.results9, go_sem]) rfl ?_
        rw [← HR.out]
        exact ⟨w1.heap.size, g, v, ra, fa, rc, fc, mb, w2, rfl, HC2.out, HAT.out, HB2.out.size, HBW.out, Sl.mono (fun _ _ _ => trivial) HRS3.out, Sl.mono (fun _ _ _ => trivial) HA3.out, HB3.out⟩
end Go.Proofs.YtfnmlpnncjhnmaaGreat


/- SheetMoves: what is moved from one account of a kind to another one of it changes none of the sums. -/
set_option linter.unusedVariables false
set_option linter.unusedSimpArgs false
namespace Go.Proofs.YtfnmlpnncjhnmaaGreat
open Go.RowKit Go.Maps Go.Deep

set_option maxHeartbeats 16000000 in
set_option maxRecDepth 100000 in
theorem sheetMoves_any (l : List Jn) (la : Option Addr) (lc : Nat) (k am e p : Int) (hpi : I64 p) (w : World) {G : Nat → Prop} (ht : Sl tJn w G la l) (hm : l.length ≤ maxLen) :
    Calls Tryz.prog 6 #[.slice la l.length lc, .int .i64 k, .int .i64 am, .int .i64 e, .int .i64 p] w fun en w' => en = .returned (.bool true) ∧ Below w.heap.size w w' := by
  have HT := Lib.hid ht
  have HPI := Lib.hid hpi
  clear ht hpi
  go_enter Tryz.func6, Tryz.ntmps6
  go_wp2_with fail
  refine (few_any l la lc 30 _ HT.out hm (by omega)).mono ?_
  rintro en w1 ⟨b, rfl, _, hb⟩
  have HB1 := Lib.hid hb
  clear hb
  cases b
  · go_wp2_with fail
    refine (alive12 w1).mono ?_
    rintro en w2 ⟨rfl, hb⟩
    have HB2 := Lib.hid (belows_then HB1.out HB1.out.size hb)
    clear hb
    go_wp2_with fail
    go_ret
    exact ⟨rfl, HB2.out⟩
  · have hcs : (k < 1 ∨ 1 ≤ k ∧ (5 < k ∨ k ≤ 5 ∧ (am < 1 ∨ 1 ≤ am ∧ (1000000 < am ∨ am ≤ 1000000 ∧ (e < 1 ∨ 1 ≤ e ∧ 9 < e))))) ∨ (1 ≤ k ∧ k ≤ 5 ∧ 1 ≤ am ∧ am ≤ 1000000 ∧ 1 ≤ e ∧ e ≤ 9) := by omega
    rcases hcs with h1 | ⟨hk1, hk2, ha1, ha2, he1, he2⟩
    · rcases h1 with h1 | ⟨h1, h2 | ⟨h2, h3 | ⟨h3, h4 | ⟨h4, h5 | ⟨h5, h6⟩⟩⟩⟩⟩
      all_goals
        go_wp2_with fail
        refine (alive12 w1).mono ?_
        rintro en w2 ⟨rfl, hb⟩
        have HB2 := Lib.hid (belows_then HB1.out HB1.out.size hb)
        clear hb
        go_wp2_with fail
        go_ret
        exact ⟨rfl, HB2.out⟩
    · obtain ⟨mo, hmo⟩ : ∃ b, monthOk p = b := ⟨_, rfl⟩
      have HMO := Lib.hid hmo
      clear hmo
      go_wp2_with fail
      refine (ref_valid_is p HMO.out w1).mono ?_
      rintro en w2 ⟨rfl, hb⟩
      have HB2 := Lib.hid (belows_then HB1.out HB1.out.size hb)
      clear hb HB1
      cases mo
      · go_wp2_with fail
        refine (alive12 w2).mono ?_
        rintro en w3 ⟨rfl, hb⟩
        have HB3 := Lib.hid (belows_then HB2.out HB2.out.size hb)
        clear hb
        go_wp2_with fail
        go_ret
        exact ⟨rfl, HB3.out⟩
      · go_wp2_with fail
        refine (alive12 w2).mono ?_
        rintro en w3 ⟨rfl, hb⟩
        have HB3 := Lib.hid (belows_then HB2.out HB2.out.size hb)
        clear hb HB2
        have hik : I64 k := i64_ofB (by omega) (by omega)
        have HBA := Lib.hid (HB3.out.alloc HB3.out.size (.cells #[.int .i64 9001, .int .i64 k, .bool false, .int .i64 9002, .int .i64 k, .bool false, .int .i64 1, .int .i64 1, .bool false, .int .i64 2, .int .i64 4, .bool false] 83))
        have HSA : Hid (Sl tAc (w3.alloc (.cells #[.int .i64 9001, .int .i64 k, .bool false, .int .i64 9002, .int .i64 k, .bool false, .int .i64 1, .int .i64 1, .bool false, .int .i64 2, .int .i64 4, .bool false] 83)) (fun _ => True) (some ⟨w3.heap.size, 0, none⟩) (mvRows k)) := Lib.hid (sl_block (mvRows k) [acs ⟨9001, k, false⟩, acs ⟨9002, k, false⟩, acs ⟨1, 1, false⟩, acs ⟨2, 4, false⟩] rfl (by simp; rfl) (blk_new w3 _) trivial (fun i c x hi hx => by
          match i, hi, hx with
          | 0, hi, hx => simp [mvRows] at hi hx; subst hi; subst hx; exact ac_mk _ (show I64 9001 by decide) hik
          | 1, hi, hx => simp [mvRows] at hi hx; subst hi; subst hx; exact ac_mk _ (show I64 9002 by decide) hik
          | 2, hi, hx => simp [mvRows] at hi hx; subst hi; subst hx; exact ac_mk _ (by decide) (by decide)
          | 3, hi, hx => simp [mvRows] at hi hx; subst hi; subst hx; exact ac_mk _ (by decide) (by decide)
          | i + 4, hi, hx => simp at hi))
        have hset := setO_any (mvRows k) (some ⟨w3.heap.size, 0, none⟩) 4 l la lc (w3.alloc (.cells #[.int .i64 9001, .int .i64 k, .bool false, .int .i64 9002, .int .i64 k, .bool false, .int .i64 1, .int .i64 1, .bool false, .int .i64 2, .int .i64 4, .bool false] 83)) HSA.out (by show 4 ≤ maxLen; decide) (Sl.keep (fun k hk _ => HBA.out.block k hk) HT.out) hm
        rw [mv_set hk1 hk2] at hset
        have HSET : Hid (Calls Tryz.prog 9 #[.slice (some ⟨w3.heap.size, 0, none⟩) 4 4, .slice la l.length lc] (w3.alloc (.cells #[.int .i64 9001, .int .i64 k, .bool false, .int .i64 9002, .int .i64 k, .bool false, .int .i64 1, .int .i64 1, .bool false, .int .i64 2, .int .i64 4, .bool false] 83)) (SetO (w3.alloc (.cells #[.int .i64 9001, .int .i64 k, .bool false, .int .i64 9002, .int .i64 k, .bool false, .int .i64 1, .int .i64 1, .bool false, .int .i64 2, .int .i64 4, .bool false] 83)) (mvChart k) (fitJ 40 l))) := Lib.hid hset
        have HV := Lib.hid (fit_val 40 l)
        have hJl : (fitJ 40 l).length ≤ 40 := fitJ_len 40 l [] (by simp)
        have HGA : Hid (GoodA (mvChart k)) := Lib.hid (by rw [← mv_set hk1 hk2]; exact setFold_good ((mvRows k).take 30) [] GoodA.nil)
        generalize fitJ 40 l = J at *
        have hw3 := HB3.out.size
        clear hset HT HSA HB3 hik
        go_wp2_with fail
        refine HSET.out.mono ?_
        rintro en w4 ⟨c, g, v, ra, fa, rc, fc, mb, wB, rfl, hc, hg, hws, hbw, _, _, hb⟩
        have HB4 := Lib.hid (belows_then HBA.out HBA.out.size hb)
        have HC := Lib.hid hc
        have HBW := Lib.hid hbw
        have HG := Lib.hid hg
        have hcl : (mvChart k).length = 4 := rfl
        obtain ⟨S, hS⟩ : ∃ S, shT (mvChart k) J e p = S := ⟨_, rfl⟩
        obtain ⟨ga, gc, hvv, hat⟩ := hg.at_
        have HM := Lib.hid (shMake_any (hc.below hbw) hat (by omega) HV.out.good e p HPI.out hS)
        have HS := Lib.hid hS
        obtain ⟨⟨u1, u2, u3, u4, u5, u6⟩, ue⟩ := S
        clear hc hg hbw hb hS hat hvv HBA HSET
        go_wp2_with fail
        refine HM.out.mono ?_
        rintro en w5 ⟨a1, m1, c1, a2, m2, c2, a3, m3, c3, rfl, -, -, hb⟩
        have HB5 := Lib.hid (belows_then HB4.out HB4.out.size hb)
        have hs5 := hb.size
        have HD5 := Lib.hid hb
        clear hb HM
        obtain ⟨SB, hSB⟩ : ∃ SB, w5.heap.size = SB := ⟨_, rfl⟩
        have hna : IntKind.i64.wrap (-am) = -am := wrap_is (by omega) (by omega)
        have HW8 : Hid (∀ x, x = ((w5.alloc (.cells #[.slice a1 m1 c1, .slice a2 m2 c2, .slice a3 m3 c3, .int .i64 u1, .int .i64 u2, .int .i64 u3, .int .i64 u4, .int .i64 u5, .int .i64 u6] 75)).alloc (.cells #[.int .i64 9001, .int .i64 am, .int .i64 0, .int .i64 9002, .int .i64 (-am), .int .i64 0] 85)).alloc (.cells #[.int .i64 999998, .int .i64 e, .int .i64 p, .string ⟨#[]⟩, .slice (some ⟨SB + 1, 0, none⟩) 2 2, .bool false] 88) →
            Below w5.heap.size w5 x ∧ x.heap[SB]? = some (.cells #[.slice a1 m1 c1, .slice a2 m2 c2, .slice a3 m3 c3, .int .i64 u1, .int .i64 u2, .int .i64 u3, .int .i64 u4, .int .i64 u5, .int .i64 u6] 75 (0, 0)) ∧ x.heap[SB + 1]? = some (.cells #[.int .i64 9001, .int .i64 am, .int .i64 0, .int .i64 9002, .int .i64 (-am), .int .i64 0] 85 (0, 0)) ∧ x.heap[SB + 2]? = some (.cells #[.int .i64 999998, .int .i64 e, .int .i64 p, .string ⟨#[]⟩, .slice (some ⟨SB + 1, 0, none⟩) 2 2, .bool false] 88 (0, 0)) ∧ x.heap.size = SB + 3) := Lib.hid (by
          rintro x rfl
          subst hSB
          refine ⟨(((Below.refl _ _).alloc (Nat.le_refl _) _).alloc (by simp) _).alloc (by simp; omega) _, blk_alloc (blk_alloc (blk_new w5 _) _) _, ?_, ?_, by simp⟩
          · have := blk_alloc (blk_new (w5.alloc (.cells #[.slice a1 m1 c1, .slice a2 m2 c2, .slice a3 m3 c3, .int .i64 u1, .int .i64 u2, .int .i64 u3, .int .i64 u4, .int .i64 u5, .int .i64 u6] 75)) (.cells #[.int .i64 9001, .int .i64 am, .int .i64 0, .int .i64 9002, .int .i64 (-am), .int .i64 0] 85)) (.cells #[.int .i64 999998, .int .i64 e, .int .i64 p, .string ⟨#[]⟩, .slice (some ⟨w5.heap.size + 1, 0, none⟩) 2 2, .bool false] 88)
            simpa using this
          · have := blk_new ((w5.alloc (.cells #[.slice a1 m1 c1, .slice a2 m2 c2, .slice a3 m3 c3, .int .i64 u1, .int .i64 u2, .int .i64 u3, .int .i64 u4, .int .i64 u5, .int .i64 u6] 75)).alloc (.cells #[.int .i64 9001, .int .i64 am, .int .i64 0, .int .i64 9002, .int .i64 (-am), .int .i64 0] 85)) (.cells #[.int .i64 999998, .int .i64 e, .int .i64 p, .string ⟨#[]⟩, .slice (some ⟨w5.heap.size + 1, 0, none⟩) 2 2, .bool false] 88)
            simpa using this)
        simp only
        go_wp2_with fail
        obtain ⟨hb8, hs8, hl8, _, hz8⟩ := HW8.out _ rfl
        clear HW8
        generalize ((w5.alloc (.cells #[.slice a1 m1 c1, .slice a2 m2 c2, .slice a3 m3 c3, .int .i64 u1, .int .i64 u2, .int .i64 u3, .int .i64 u4, .int .i64 u5, .int .i64 u6] 75)).alloc (.cells #[.int .i64 9001, .int .i64 am, .int .i64 0, .int .i64 9002, .int .i64 (-am), .int .i64 0] 85)).alloc (.cells #[.int .i64 999998, .int .i64 e, .int .i64 p, .string ⟨#[]⟩, .slice (some ⟨SB + 1, 0, none⟩) 2 2, .bool false] 88) = W8 at *
        have hgl : g < w4.heap.size := blk_lt HG.out.cell
        have hvl := HG.out.own.lt
        have hB4 : wB.heap.size ≤ w4.heap.size := HBW.out.size
        have hs58 := hb8.size
        have H8 := Lib.hid (HG.out.below (HD5.out.trans (hb8.mono hs5)))
        have HB8 := Lib.hid (belows_then HB5.out HB5.out.size hb8)
        have HWB8 := Lib.hid (HBW.out.trans ((HD5.out.trans (hb8.mono hs5)).mono hB4))
        have HJR : Hid (tJn.R W8 (fun _ => True) (jcs (mvJ e p am) (some ⟨SB + 1, 0, none⟩) 2) (mvJ e p am)) := Lib.hid (jn_mk (mvJ e p am) (show I64 999998 by decide) (i64_ofB (by show -9223372036854775808 ≤ e; omega) (by show e ≤ 9223372036854775807; omega)) HPI.out (show (⟨#[]⟩ : ByteArray).size ≤ 140737488351232 by decide) (sl_block [(⟨9001, am, 0⟩ : Ln), ⟨9002, -am, 0⟩] [[.int .i64 9001, .int .i64 am, .int .i64 0], [.int .i64 9002, .int .i64 (-am), .int .i64 0]] rfl (by simp; rfl) hl8 trivial (fun i c x hi hx => by
          have hia : I64 am := i64_ofB (by omega) (by omega)
          have hina : I64 (-am) := i64_ofB (by omega) (by omega)
          match i, hi, hx with
          | 0, hi, hx => simp at hi hx; subst hi; subst hx; exact ln_mk _ (show I64 9001 by decide) hia (show I64 0 by decide)
          | 1, hi, hx => simp at hi hx; subst hi; subst hx; exact ln_mk _ (show I64 9002 by decide) hina (show I64 0 by decide)
          | i + 2, hi, hx => simp at hi)) (by show 2 ≤ 2; omega) (by decide) (by rw [line_bytes]; show 2 * 24 ≤ 140737488351232; decide))
        have HS8 := Lib.hid hs8
        have HPO := Lib.hid (post_any H8.out (by omega) (by omega) HV.out.ordJ (mvJ e p am) (some ⟨SB + 1, 0, none⟩) 2 HJR.out)
        clear hb8 hs8 hl8 HJR
        refine HPO.out.mono ?_
        rintro en w9 ⟨rfl, hbu, _, hok⟩
        have hS9 : w9.heap[SB]? = some (.cells #[.slice a1 m1 c1, .slice a2 m2 c2, .slice a3 m3 c3, .int .i64 u1, .int .i64 u2, .int .i64 u3, .int .i64 u4, .int .i64 u5, .int .i64 u6] 75 (0, 0)) := (hbu.block SB (by omega) (by
          rintro (h | h)
          · omega
          · have := (hvl SB h).2
            omega)).trans HS8.out
        have HS9 := Lib.hid hS9
        have hF : ∀ j, (j = g ∨ v.ownBlock = some j) → wB.heap.size ≤ j := by
          rintro j (rfl | h)
          · exact HG.out.ge
          · exact (hvl j h).1
        have HB9 := Lib.hid (But.toBelow HB8.out hbu (fun j h => by have := hF j h; simp at hws; omega) HB8.out.size)
        have HWB9 := Lib.hid (But.toBelow HWB8.out hbu hF HWB8.out.size)
        have HOK := Lib.hid hok
        have hs9 := blk_cells hS9
        have hl9 := blk_lt hS9
        obtain ⟨er, her⟩ : ∃ er, postJ J (mvJ e p am) = er := ⟨_, rfl⟩
        have HER := Lib.hid her
        rw [her] at HOK ⊢
        clear hbu hok hS9 hF her HPO H8 HB8 HWB8 HS8 hvl hgl
        by_cases h0 : er = 0
        rotate_left
        · have hne : (er != 0) = true := by simpa using h0
          clear h0
          go_wp2_with fail
          go_ret
          exact ⟨rfl, HB9.out⟩
        · subst h0
          obtain ⟨v', hown⟩ := HOK.out rfl
          obtain ⟨ga, gc, hvv, hat⟩ := hown.at_
          have hV2 := (HV.out.put HER.out).1
          have hlen2 := putJ_len J (mvJ e p am)
          obtain ⟨T, hT⟩ : ∃ T, shT (mvChart k) (putJ J (mvJ e p am)) e p = T := ⟨_, rfl⟩
          have HM := Lib.hid (shMake_any (HC.out.below HWB9.out) hat (by omega) hV2.good e p HPI.out hT)
          have HALL := Lib.hid (fun h => sh_all HGA.out (J := putJ J (mvJ e p am)) (e := e) (p := p) h)
          have HHOL := Lib.hid (fun h => sh_holds HGA.out hV2 (e := e) (p := p) h)
          have HMV := Lib.hid (fun h1 h2 => moves_is (k := k) (e := e) (p := p) (a := am) HV.out HER.out h1 h2)
          rw [hT] at HALL HHOL HMV
          rw [HS.out] at HMV
          obtain ⟨⟨t1, t2, t3, t4, t5, t6⟩, te⟩ := T
          simp only at HALL HHOL HMV
          clear hown hat hvv hV2 hlen2 hT HOK HER
          go_wp2_with fail
          refine HM.out.mono ?_
          rintro en w10 ⟨b1, n1, d1, b2, n2, d2, b3, n3, d3, rfl, -, -, hb⟩
          have HBA2 := Lib.hid (belows_then HB9.out HB9.out.size (hb.alloc hb.size (.cells #[.slice b1 n1 d1, .slice b2 n2 d2, .slice b3 n3 d3, .int .i64 t1, .int .i64 t2, .int .i64 t3, .int .i64 t4, .int .i64 t5, .int .i64 t6] 75)))
          have hsa := blk_alloc (blk_below HS9.out hb) (.cells #[.slice b1 n1 d1, .slice b2 n2 d2, .slice b3 n3 d3, .int .i64 t1, .int .i64 t2, .int .i64 t3, .int .i64 t4, .int .i64 t5, .int .i64 t6] 75)
          have hsn := blk_new w10 (.cells #[.slice b1 n1 d1, .slice b2 n2 d2, .slice b3 n3 d3, .int .i64 t1, .int .i64 t2, .int .i64 t3, .int .i64 t4, .int .i64 t5, .int .i64 t6] 75)
          clear hs9 hl9 HM hb
          simp only
          have hcu : (ue != 0) = true ∧ ue ≠ 0 ∨ ue = 0 := by by_cases h : ue = 0 <;> simp [h]
          have hct : (te != 0) = true ∧ te ≠ 0 ∨ te = 0 := by by_cases h : te = 0 <;> simp [h]
          rcases hcu with ⟨hu1, hu2⟩ | rfl
          · go_wp2_with fail
            go_ret
            exact ⟨rfl, HBA2.out⟩
          rcases hct with ⟨ht1, ht2⟩ | rfl
          · go_wp2_with fail
            go_ret
            exact ⟨rfl, HBA2.out⟩
          have hmv := HMV.out (by first | trivial | rfl) (by first | trivial | rfl)
          simp only [Prod.mk.injEq] at hmv
          obtain ⟨rfl, rfl, rfl, rfl, rfl, rfl⟩ := hmv
          have hall := HALL.out (by first | trivial | rfl)
          have hhol := HHOL.out (by first | trivial | rfl)
          have HI : Hid (∀ x ∈ [t1, t2, t3, t4, t5, t6], I64 x) := Lib.hid (fun x hx => i64_fit (by rw [List.all_eq_true] at hall; exact hall x hx))
          have HSB : Hid (sheetB t1 t2 t3 t4 t5 t6 = true) := Lib.hid (by unfold sheetB; rw [hall]; simp [hhol])
          clear hall hhol HALL HHOL HMV
          have hc1 := blk_cells hsa
          have hl1 := blk_lt hsa
          have hc2 := blk_cells hsn
          have hl2 := blk_lt hsn
          clear hsa hsn
          go_wp2_with fail
          have hi := HI.out
          refine (shHolds_any (.slice b1 n1 d1) (.slice b2 n2 d2) (.slice b3 n3 d3) t1 t2 t3 t4 t5 t6 _ rfl (hi _ (by simp)) (hi _ (by simp)) (hi _ (by simp)) (hi _ (by simp)) (hi _ (by simp)) (hi _ (by simp)) HSB.out).mono ?_
          clear hi
          rintro en w11 ⟨rfl, hb⟩
          have HB11 := Lib.hid (belows_then HBA2.out HBA2.out.size hb)
          clear hb hc1 hl1 hc2 hl2
          go_wp2_with fail
          go_ret
          exact ⟨rfl, HB11.out⟩

theorem sheetMoves_row (a0 : Option Addr) (len0 cap0 : Nat) (x0 : List Jn) (k am e p : Int) (w : World) (y0 : tJns.R w (fun _ => True) [.slice a0 len0 cap0] x0) (h1 : I64 k) (h2 : I64 am) (h3 : I64 e) (h4 : I64 p) :
    Calls Tryz.prog 6 #[.slice a0 len0 cap0, .int .i64 k, .int .i64 am, .int .i64 e, .int .i64 p] w fun en w' => en = .returned (.bool true) ∧ Below w.heap.size w w' := by
  obtain ⟨a, cap, hv, hs, g1, g2, _⟩ := y0
  simp only [List.cons.injEq, Value.slice.injEq, and_true] at hv
  obtain ⟨rfl, rfl, rfl⟩ := hv
  exact sheetMoves_any x0 a0 cap0 k am e p h4 w hs (Nat.le_trans g1 g2)
end Go.Proofs.YtfnmlpnncjhnmaaGreat
