/- law 10: Set: accounts, and journals that may be in one book. -/
import Derived.Test.YtgggpaacagbmcaaGreatX39GroupInner
import Derived.Test.YtgggpaacagbmcaaGreatX40GroupInner
import Derived.Test.YtgggpaacagbmcaaGreatX06GroupInner
import Derived.Test.YtgggpaacagbmcaaGreatX17GroupInner
import Derived.Test.YtgggpaacagbmcaaGreatX16GroupInner
import Derived.Test.YtgggpaacagbmcaaGreatX23GroupInner
import Derived.Deep.RegionHeld3
import Derived.Test.YtgggpaacagbmcaaGreatX27GroupInner
set_option linter.unusedVariables false
set_option linter.unusedSimpArgs false
namespace Go.Proofs.YtgggpaacagbmcaaGreat
open Go.RowKit Go.Maps Go.Deep

theorem good_take {l : List Ac} (h : GoodA l) {n : Nat} (hn : n < l.length) : rowB l[n] = true ∧ findA (l.take n) l[n].code = none := by
  refine ⟨h.ok _ (List.getElem_mem hn), ?_⟩
  unfold findA
  rw [List.find?_eq_none]
  intro x hx he
  obtain ⟨i, hi, rfl⟩ := List.mem_iff_getElem.1 hx
  rw [List.length_take] at hi
  rw [List.getElem_take] at he
  have := (List.pairwise_iff_getElem.1 h.up) i n (by omega) hn (by omega)
  simp at he
  omega

set_option maxHeartbeats 4000000 in
set_option maxRecDepth 100000 in
theorem chnew_any (l : List Ac) (a : Option Addr) (cap : Nat) (w : World) {F : Nat → Prop} (hs : Sl tAc w F a l) (hl : l.length ≤ 1000) (hg : GoodA l) :
    Calls Tryz.prog 87 #[.slice a l.length cap] w fun e w' => e = .returned (.tuple #[.pointer (some ⟨w.heap.size, 0, none⟩), .int .i64 0]) ∧ ∃ mb, ChartAt w' w.heap.size mb l ∧ Below w.heap.size w w' := by
  have HS := Lib.hid hs
  have HG := Lib.hid hg
  clear hs hg
  have HC0 : Hid (ChartAt (w.alloc (.cells #[.map none] 201)) w.heap.size none (l.take 0)) := Lib.hid ⟨blk_new w _, fun _ => rfl, fun b e => by cases e⟩
  have HB0 := Lib.hid ((Below.refl w.heap.size w).alloc (Nat.le_refl _) (.cells #[.map none] 201))
  go_enter Tryz.func87, Tryz.ntmps87
  go_wp2_with fail
  go_loopw [12] (fun vi wr => ∃ (n : Nat) (mb : Option Nat), n ≤ l.length ∧ vi = .int .i64 n ∧ ChartAt wr w.heap.size mb (l.take n) ∧ (∀ b, mb = some b → w.heap.size ≤ b) ∧ Below w.heap.size w wr) (fun vi _ => l.length - (Go.RowKit.intOf vi).toNat)
  case atStart => exact ⟨0, none, Nat.zero_le _, rfl, HC0.out, fun b e => (by cases e), HB0.out⟩
  case round =>
    obtain ⟨n, mb, hn, rfl, hc, hm, hb⟩ := hrel
    have HC := Lib.hid hc
    have HM := Lib.hid hm
    have HB := Lib.hid hb
    clear hc hm hb
    by_cases hlt : n < l.length
    · obtain ⟨ad, rfl, _, hadl, hc0, hc1, hc2, g0, g1⟩ := ac_at (HS.out.keep fun k hk _ => HB.out.block k hk) n hlt
      have HGT := Lib.hid (good_take HG.out hlt)
      have HTK : Hid (l.take (n + 1) = l.take n ++ [l[n]]) := Lib.hid (List.take_succ_eq_append_getElem hlt)
      have HBA : Hid (Below wr.heap.size wr (wr.alloc (.cells #[.int .i64 l[n].code, .int .i64 l[n].kind, .bool l[n].ret] 79))) := Lib.hid ((Below.refl _ _).alloc (Nat.le_refl _) _)
      have HCA := Lib.hid (HC.out.below HBA.out)
      have G0 := Lib.hid g0
      have G1 := Lib.hid g1
      clear g0 g1
      go_wp2_with fail
      refine (put_any (B := w.heap.size) HCA.out l[n] HGT.out.1 HGT.out.2 G0.out G1.out (Nat.le_refl _) HM.out).mono ?_
      rintro en w3 ⟨rfl, mb', hc3, hm3, hb3⟩
      have HC3 := Lib.hid hc3
      have HM3 := Lib.hid hm3
      have HB3 := Lib.hid ((belows_then HB.out HB.out.size HBA.out).trans hb3)
      clear hc3 hm3 hb3
      go_wp2_with fail
      go_roundw
      case rel => exact ⟨n + 1, mb', by omega, by go_num, by rw [HTK.out]; exact HC3.out, HM3.out, HB3.out⟩
      case measure => simp [Go.RowKit.intOf]; omega
    · go_wp2_with fail
      go_ret2
      exact ⟨rfl, mb, by have := HC.out; rwa [take_all hn hlt] at this, HB.out⟩
set_option maxHeartbeats 2000000 in
theorem l3make_any (l : List Ac) (a : Option Addr) (cap : Nat) (w : World) {F : Nat → Prop} (hs : Sl tAc w F a l) (hl : l.length ≤ 1000) (hg : GoodA l) :
    Calls Tryz.prog 25 #[.slice a l.length cap] w fun e w' => e = .returned (.pointer (some ⟨w.heap.size, 0, none⟩)) ∧ ∃ mb, ChartAt w' w.heap.size mb l ∧ Below w.heap.size w w' := by
  have HC := Lib.hid (chnew_any l a cap w hs hl hg)
  clear hs hl hg
  go_enter Tryz.func25, Tryz.ntmps25
  go_wp2_with fail
  refine HC.out.mono ?_
  rintro en w' ⟨rfl, mb, hc, hb⟩
  have HF := Lib.hid (And.intro hc hb)
  clear hc hb
  go_wp2_with fail
  go_ret
  exact ⟨rfl, mb, HF.out⟩

theorem OwnL.formA {w : World} {base : Nat} {v : Value} {xs : List Ac} (h : OwnL tAc w base v xs) : ∃ ra rc, v = .slice ra xs.length rc ∧ xs.length ≤ rc ∧ rc ≤ maxLen ∧ Sl tAc w (fun _ => True) ra xs ∧ (ra = none → xs = [] ∧ rc = 0) := by
  obtain ⟨a, c, rfl, h1, h2, h3⟩ := h.slice
  refine ⟨a, c, rfl, h1, h2, h3, fun e => ?_⟩
  rcases h.form with ⟨hv, hx⟩ | ⟨g, cap, hv, _⟩
  · injection hv with _ _ h5
    exact ⟨hx, h5⟩
  · injection hv with h4
    rw [e] at h4
    cases h4

/-- a chart and a book, as the program's and the document's -/
def SetP (w : World) (r : List Ac) (J : List Jn) (e : Ending) (w' : World) : Prop :=
  ∃ (c g : Nat) (ra fa ga : Option Addr) (rc fc gc : Nat) (mb : Option Nat), e = .returned (.tuple #[.pointer (some ⟨c, 0, none⟩), .pointer (some ⟨g, 0, none⟩), .slice ra r.length rc, .slice fa J.length fc, .bool true]) ∧
    ChartAt w' c mb r ∧ BookAt w' g ga gc J (fun k => w.heap.size ≤ k) ∧ Sl tAc w' (fun _ => True) ra r ∧ Sl tJn w' (fun _ => True) fa J ∧ Below w.heap.size w w'
theorem fold_succA {α β : Type} (f : β → α → β) (l : List α) (n : Nat) (hn : n < l.length) (o : β) : (l.take (n + 1)).foldl f o = f ((l.take n).foldl f o) l[n] := by
  rw [List.take_succ_eq_append_getElem hn, List.foldl_append]
  rfl
theorem setFold_good : ∀ (l r : List Ac), GoodA r → GoodA (l.foldl setStep r)
  | [], _, h => h
  | x :: l, r, h => setFold_good l _ (setStep_good h x)
theorem setFold_len : ∀ (l r : List Ac), (l.foldl setStep r).length ≤ r.length + l.length
  | [], _ => by simp
  | x :: l, r => by
    have h1 := setFold_len l (setStep r x)
    have h2 := setStep_len r x
    simp only [List.foldl_cons, List.length_cons]
    omega

set_option maxHeartbeats 8000000 in
set_option maxRecDepth 100000 in
theorem set_any (rows : List Ac) (a : Option Addr) (cap : Nat) (l : List Jn) (b : Option Addr) (bcap : Nat) (w : World) {F G : Nat → Prop} (hs : Sl tAc w F a rows) (hl : rows.length ≤ maxLen) (ht : Sl tJn w G b l) (hm : l.length ≤ maxLen) :
    Calls Tryz.prog 8 #[.slice a rows.length cap, .slice b l.length bcap] w (SetP w (setR rows) (fitJ 40 l)) := by
  have HS := Lib.hid hs
  have HT := Lib.hid ht
  have HV := Lib.hid (fit_val 40 l)
  have hlen : (fitJ 40 l).length ≤ 200 := HV.out.len
  have hl' : rows.length ≤ 9223372036854775807 := by unfold maxLen at hl; omega
  clear hs hl ht
  go_enter Tryz.func8, Tryz.ntmps8
  go_wp2_with fail
  go_loopw [9, 10, 11, 12] (fun vo vi v11 v12 wr => ∃ (n : Nat) (vx : Value) (r : List Ac), vx = vo ∧ n ≤ rows.length ∧ n ≤ 30 ∧ vi = .int .i64 n ∧ Hid (r = (rows.take n).foldl setStep []) ∧ OwnL tAc wr w.heap.size vx r ∧ Below w.heap.size w wr) (fun _ vi _ _ _ => rows.length - (Go.RowKit.intOf vi).toNat)
  case atStart => exact ⟨0, _, [], rfl, Nat.zero_le _, Nat.zero_le _, rfl, Lib.hid rfl, OwnL.nil _ _, Below.refl _ _⟩
  case round =>
    obtain ⟨n, vo, r, rfl, hn, hn30, rfl, hr, ho, hb⟩ := hrel
    have HG : Hid (GoodA r) := Lib.hid (by rw [hr.out]; exact setFold_good _ _ GoodA.nil)
    have hrl : r.length ≤ 30 := by
      rw [hr.out]
      have := setFold_len (rows.take n) []
      rw [List.length_take] at this
      simp only [List.length_nil] at this
      omega
    have HB := Lib.hid hb
    have HO := Lib.hid ho
    obtain ⟨ra, rc, rfl, hrc, hrm, hrs, hrn⟩ := ho.formA
    have HRS := Lib.hid hrs
    have HRN := Lib.hid hrn
    clear hb ho hrs hrn
    by_cases hlt : n < rows.length ∧ n < 30
    · obtain ⟨hlt, h30⟩ := hlt
      obtain ⟨ad, rfl, _, hadl, hc0, hc1, hc2, g0, g1⟩ := ac_at (HS.out.keep fun k hk _ => HB.out.block k hk) n hlt
      have G0 := Lib.hid g0
      have G1 := Lib.hid g1
      have HN0 : Hid ((rows.take (n + 1)).foldl setStep [] = setStep r rows[n]) := Lib.hid (by rw [fold_succA _ _ _ hlt, ← hr.out])
      clear g0 g1
      generalize rows[n] = x at *
      obtain ⟨er, her⟩ : ∃ er, addE r x = er := ⟨_, rfl⟩
      have HC := Lib.hid (add_any r ra rc x wr HRS.out HG.out (by omega) hrc hrm HRN.out G0.out G1.out)
      have HE := Lib.hid her
      clear her
      go_wp2_with fail
      refine HC.out.mono ?_
      rintro en w2 ⟨v', rfl, hok, hb⟩
      rw [HE.out] at hok ⊢
      have HOK := Lib.hid hok
      have HO2 := Lib.hid (HO.out.below hb)
      have HB2 := Lib.hid (belows_then HB.out HB.out.size hb)
      have HBS := HB.out.size
      clear hok hb
      cases her : er == 0
      · have HN1 : Hid (r = (rows.take (n + 1)).foldl setStep []) := Lib.hid (by rw [HN0.out]; unfold setStep; rw [HE.out, her]; rfl)
        go_wp2_with fail
        go_roundw
        case rel => exact ⟨n + 1, _, r, rfl, by omega, by omega, by go_num, HN1, HO2.out, HB2.out⟩
        case measure => simp [Go.RowKit.intOf]; omega
      · have HN1 : Hid (insA r x = (rows.take (n + 1)).foldl setStep []) := Lib.hid (by rw [HN0.out]; unfold setStep; rw [HE.out, her]; rfl)
        obtain rfl : er = 0 := by simpa using her
        have H3 := Lib.hid ((HOK.out rfl).mono HBS)
        clear her
        go_wp2_with fail
        go_roundw
        case rel => exact ⟨n + 1, _, insA r x, rfl, by omega, by omega, by go_num, HN1, H3.out, HB2.out⟩
        case measure => simp [Go.RowKit.intOf]; omega
    · have hd : (decide ((n : Int) < (rows.length : Int)) && decide ((n : Int) < 30)) = false := by simp; omega
      have HR : Hid (r = setR rows) := Lib.hid (by
        rw [hr.out]
        unfold setR
        rcases Nat.lt_or_ge n 30 with h | h
        · have : n = rows.length := by omega
          rw [this, List.take_length, List.take_of_length_le (by omega)]
        · have : n = 30 := by omega
          rw [this])
      have hcs : ¬ n < rows.length ∨ n < rows.length ∧ ¬ n < 30 := by omega
      clear hr
      rcases hcs with h1 | ⟨h1, h2⟩
      all_goals
        clear hlt hd
        go_wp2_with fail
        refine (fit_any l b bcap 40 wr (Sl.keep (fun k hk _ => HB.out.block k hk) HT.out) hm (by omega)).mono ?_
        rintro en w1 ⟨v, rfl, ho, hb⟩
        have HB1 := Lib.hid (belows_then HB.out HB.out.size hb)
        obtain ⟨fa, fc, rfl, _, _, hsl⟩ := ho.slice
        have HA := Lib.hid hsl
        have HRS1 := Lib.hid (Sl.keep (fun k hk _ => hb.block k hk) HRS.out)
        clear ho hb hsl
        generalize fitJ 40 l = J at *
        go_wp2_with fail
        refine (l3make_any r ra rc w1 HRS1.out (by omega) HG.out).mono ?_
        rintro en w2 ⟨rfl, mb, hc, hb⟩
        have HB2 := Lib.hid (belows_then HB1.out HB1.out.size hb)
        have HC2 := Lib.hid hc
        have HRS2 := Lib.hid (Sl.keep (fun k hk _ => hb.block k hk) HRS1.out)
        have HA2 := Lib.hid (Sl.keep (fun k hk _ => hb.block k hk) HA.out)
        clear hc hb
        go_wp2_with fail
        refine (lof_yes J fa fc _ HA2.out (by omega) HV.out.incJ HV.out.of).mono ?_
        rintro en w3 ⟨g, ga, gc, rfl, hg, hat, hb⟩
        have HB3 := Lib.hid (belows_then HB2.out HB2.out.size hb)
        have HC3 := Lib.hid (HC2.out.below hb)
        have HRS3 := Lib.hid (Sl.keep (fun k hk _ => hb.block k hk) HRS2.out)
        have HA3 := Lib.hid (Sl.keep (fun k hk _ => hb.block k hk) HA2.out)
        have HAT := Lib.hid hat
        clear hb hat hg
        go_wp2_with fail
        refine bodyPost_ret (v := .tuple #[.pointer (some ⟨w1.heap.size, 0, none⟩), .pointer (some ⟨g, 0, none⟩), .slice ra r.length rc, .slice fa J.length fc, .bool true]) (by simp [results, Tryz.results8, go_sem]) rfl ?_
        rw [← HR.out]
        refine ⟨w1.heap.size, g, ra, fa, ga, rc, fc, gc, mb, rfl, HC3.out, ⟨HAT.out.cell, Sl.mono (fun k _ hk => ?_) HAT.out.sl, HAT.out.len, HAT.out.cap⟩, Sl.mono (fun _ _ _ => trivial) HRS3.out, Sl.mono (fun _ _ _ => trivial) HA3.out, HB3.out⟩
        have h1 : w2.heap.size ≤ k := hk
        have h2 := HB2.out.size
        omega
end Go.Proofs.YtgggpaacagbmcaaGreat


/- law 12, alive, the plain side. -/
set_option linter.unusedVariables false
set_option linter.unusedSimpArgs false
namespace Go.Proofs.YtgggpaacagbmcaaGreat
open Go.RowKit Go.Maps Go.Deep

def j12 : Jn := ⟨1, 1, 3, ⟨#[]⟩, [⟨100, 5, 0⟩, ⟨400, -5, 0⟩], false⟩
def r12 : List Ac := [⟨100, 1, false⟩, ⟨400, 4, false⟩]
theorem j12_chk : chk j12 = 0 := by decide +kernel
theorem fit12 : fitJ 40 [j12] = [j12] := by
  have h1 : postJ [] j12 = 0 := post_mk j12_chk rfl (by simp [takenJ, j12]) (by simp)
  unfold fitJ
  simp only [List.foldl_cons, List.foldl_nil]
  unfold fitStep
  rw [h1]
  rfl
theorem set12 : setR r12 = r12 := by decide +kernel
theorem acc12a (t : Int) (h : 3 ≤ t) : linesOf [j12] 1 0 t = j12.lines := by
  unfold linesOf
  have : cnt 1 0 t j12 = true := by simp [cnt, j12, h]
  simp [this]
theorem bal12 (t : Int) (h : 3 ≤ t) (h2 : t ≤ 1199) : balT [j12] 1 0 t = ([(100, 5), (400, -5)], 0) := by
  have h1 : accR [j12] 1 0 t = [(100, 5), (400, -5)] := by
    unfold accR tellS
    rw [acc12a t h]
    have e : accS [] j12.lines = [(100, 5), (400, -5)] := by decide +kernel
    rw [e]
    have : srt ([((100 : Int), (5 : Int)), (400, -5)].map (·.1)) = [100, 400] := srt_id (l := [100, 400]) (by simp)
    rw [this]
    decide +kernel
  have hr : rightB 1 0 t = true := by
    unfold rightB
    simp [monthOk, entB]
    omega
  unfold balT
  rw [h1, hr]
  decide +kernel
theorem bal12n : balT [j12] 1 12 14 = ([], 0) := by
  have h1 : accR [j12] 1 12 14 = [] := by
    unfold accR tellS
    have e : accS [] (linesOf [j12] 1 12 14) = [] := by decide +kernel
    rw [e]
    have : srt (([] : List (Int × Int)).map (·.1)) = [] := srt_id (l := []) (by simp)
    rw [this]
    rfl
  unfold balT
  rw [h1]
  decide +kernel
theorem inc12 : incR r12 [(100, 5), (400, -5)] = ((5, 0, 5), 0) := by decide +kernel
theorem inc12n : incR r12 [] = ((0, 0, 0), 0) := by decide +kernel
theorem incM12 (t : Int) (h : 3 ≤ t) (h2 : t ≤ 1199) : incM r12 [j12] 1 0 t = ((5, 0, 5), 0) := by rw [incM_is (bal12 t h h2)]; exact inc12
theorem incM12n : incM r12 [j12] 1 12 14 = ((0, 0, 0), 0) := by rw [incM_is bal12n]; exact inc12n
theorem sh12a : shT r12 [j12] 1 5 = ((5, 0, 0, 0, 5, 0), 0) := by
  have h0 := bal12 5 (by omega) (by omega)
  have h1 : owT r12 [(100, 5), (400, -5)] = (5, 0) := by decide +kernel
  have h2 : oeT r12 [(100, 5), (400, -5)] = (0, 0) := by decide +kernel
  have h3 : heT r12 [(100, 5), (400, -5)] = (0, 0) := by decide +kernel
  have hj : janOf 5 = 0 := by decide
  have h4 : retT r12 [j12] 1 5 = (0, 0) := by unfold retT; rw [hj]; rfl
  have h5 : curT r12 [j12] 1 5 = (5, 0) := by unfold curT; rw [hj, incM12 5 (by omega) (by omega)]
  have h6 : otT r12 [(100, 5), (400, -5)] = (0, 0) := by decide +kernel
  unfold shT shE
  simp only [h0, h1, h2, h3, h4, h5, h6]
  rfl
theorem sh12b : shT r12 [j12] 1 14 = ((5, 0, 0, 5, 0, 0), 0) := by
  have h0 := bal12 14 (by omega) (by omega)
  have h1 : owT r12 [(100, 5), (400, -5)] = (5, 0) := by decide +kernel
  have h2 : oeT r12 [(100, 5), (400, -5)] = (0, 0) := by decide +kernel
  have h3 : heT r12 [(100, 5), (400, -5)] = (0, 0) := by decide +kernel
  have hj : janOf 14 = 12 := by decide
  have h4 : retT r12 [j12] 1 14 = (5, 0) := by unfold retT; rw [hj, show (12 : Int) - 1 = 11 from rfl, incM12 11 (by omega) (by omega)]; rfl
  have h5 : curT r12 [j12] 1 14 = (0, 0) := by unfold curT; rw [hj, incM12n]
  have h6 : otT r12 [(100, 5), (400, -5)] = (0, 0) := by decide +kernel
  unfold shT shE
  simp only [h0, h1, h2, h3, h4, h5, h6]
  rfl
theorem len12 : ((balT [j12] 1 0 5).1.filter (pickB r12 [1])).length = 1 := by rw [bal12 5 (by omega) (by omega)]; decide +kernel
end Go.Proofs.YtgggpaacagbmcaaGreat


/- sheet.Holds: are both sides of a sheet alike? -/
set_option linter.unusedVariables false
set_option linter.unusedSimpArgs false
namespace Go.Proofs.YtgggpaacagbmcaaGreat
open Go.RowKit Go.Maps Go.Deep

def sheetB (a b c d e f : Int) : Bool := [a, b, c, d, e, f].all fitsB && a == b + c + d + e + f
theorem fit_bd {n : Int} (h : fitsB n = true) : -1000000000000000 ≤ n ∧ n ≤ 1000000000000000 := by simpa [fitsB] using h

end Go.Proofs.YtgggpaacagbmcaaGreat


/- law 12: the first calls are as the document fixes them. -/
set_option linter.unusedVariables false
set_option linter.unusedSimpArgs false
namespace Go.Proofs.YtgggpaacagbmcaaGreat
open Go.RowKit Go.Maps Go.Deep

/-- a list that lies in one block, element behind element -/
theorem sl_block {P : Program} {e : TypeId} {α : Type} {T : Ty P e α} {w : World} {F : Nat → Prop} {b : Nat} (xs : List α) (css : List (List Value)) (hl : css.length = xs.length) (hn : ∀ c ∈ css, c.length = T.n)
    (hb : w.heap[b]? = some (.cells css.flatten.toArray e (0, 0))) (hF : F b) (hr : ∀ (i : Nat) (c : List Value) (x : α), css[i]? = some c → xs[i]? = some x → T.R w F c x) : Sl T w F (some ⟨b, 0, none⟩) xs := by
  intro i x hx
  have hil := (List.getElem?_eq_some_iff.1 hx).1
  have hci : css[i]? = some css[i] := List.getElem?_eq_getElem (by omega)
  refine ⟨_, css[i], rfl, hF, (Array.getElem?_eq_some_iff.1 hb).1, fun j u hu => ?_, hr i _ x hci hx⟩
  have hfl := flat_at hn i j _ u hci hu
  rw [Go.Addr.add_add]
  have : (⟨b, 0, none⟩ : Addr).add (i * T.n + j) = ⟨b, i * T.n + j, none⟩ := by unfold Addr.add; split <;> simp_all
  rw [this, cell_of_row w b _ _ e (0, 0) hb]
  simpa using hfl

end Go.Proofs.YtgggpaacagbmcaaGreat
