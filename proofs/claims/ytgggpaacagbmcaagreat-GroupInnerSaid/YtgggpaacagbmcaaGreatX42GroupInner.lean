/- group.Inner: what members have with each other. -/
import Derived.Test.YtgggpaacagbmcaaGreatX18GroupInner
import Derived.Test.YtgggpaacagbmcaaGreatX10GroupInner
import Derived.Test.YtgggpaacagbmcaaGreatX39GroupInner
import Derived.Test.YtgggpaacagbmcaaGreatX41GroupInner
import Derived.Test.YtgggpaacagbmcaaGreatX29GroupInner
import Derived.Deep.RegionHeld3
set_option linter.unusedVariables false
set_option linter.unusedSimpArgs false
namespace Go.Proofs.YtgggpaacagbmcaaGreat
open Go.RowKit Go.Maps Go.Deep

/-- two entities, the lower one first -/
def pkey (a b : Int) : Int × Int := (min a b, max a b)
/-- what a journal's lines have with members -/
def lnP (ms : List Mb) (e : Int) (ls : List Ln) : List ((Int × Int) × Int) := (ls.filter (fun x => innB ms x.par)).map (fun x => (pkey e x.par, x.amt))
def jnB (ms : List Mb) (p : Int) (j : Jn) : Bool := !j.void && (!decide (p < j.pe) && innB ms j.en)
def jnP (ms : List Mb) (p : Int) (j : Jn) : List ((Int × Int) × Int) := if jnB ms p j then lnP ms j.en j.lines else []
def allP (ms : List Mb) (p : Int) (J : List Jn) : List ((Int × Int) × Int) := J.flatMap (jnP ms p)
def valQ (s : GsQ) (k : Int × Int) : Int := (look s k).getD 0
def accQ (s : GsQ) (ps : List ((Int × Int) × Int)) : GsQ := ps.foldl (fun s y => ins s y.1 (IntKind.i64.wrap (valQ s y.1 + y.2))) s
theorem pkey_ok {a b : Int} (ha : I64 a) (hb : I64 b) : I64 (pkey a b).1 ∧ I64 (pkey a b).2 := by
  unfold pkey
  rcases Int.le_total a b with h | h
  · rw [Int.min_eq_left h, Int.max_eq_right h]; exact ⟨ha, hb⟩
  · rw [Int.min_eq_right h, Int.max_eq_left h]; exact ⟨hb, ha⟩
theorem accQ_snoc (s : GsQ) (ps : List ((Int × Int) × Int)) (y : (Int × Int) × Int) : accQ s (ps ++ [y]) = ins (accQ s ps) y.1 (IntKind.i64.wrap (valQ (accQ s ps) y.1 + y.2)) := by
  unfold accQ
  rw [List.foldl_append]
  rfl
theorem insQ_len (s : GsQ) (k : Int × Int) (v : Int) : (ins s k v).length ≤ s.length + 1 := by
  induction s with
  | nil => simp [ins]
  | cons x r ih =>
    unfold ins
    split
    · simp
    · simp only [List.length_cons]; omega
theorem accQ_len : ∀ (ps : List ((Int × Int) × Int)) (s : GsQ), (accQ s ps).length ≤ s.length + ps.length
  | [], s => by simp [accQ]
  | y :: r, s => by
    have h1 := accQ_len r (ins s y.1 (IntKind.i64.wrap (valQ s y.1 + y.2)))
    have h2 := insQ_len s y.1 (IntKind.i64.wrap (valQ s y.1 + y.2))
    have e : accQ s (y :: r) = accQ (ins s y.1 (IntKind.i64.wrap (valQ s y.1 + y.2))) r := rfl
    rw [e, List.length_cons]
    omega
theorem valQ_ins (s : GsQ) (k j : Int × Int) (v : Int) : valQ (ins s k v) j = if j = k then v else valQ s j := by
  unfold valQ
  induction s with
  | nil =>
    by_cases h : j = k
    · subst h; simp [ins, look]
    · have h' : ¬ k = j := fun e => h e.symm
      simp [ins, look, h, h']
  | cons x r ih =>
    by_cases hx : x.1 = k
    · by_cases h : j = k
      · subst h; simp [ins, look, hx]
      · have h' : ¬ k = j := fun e => h e.symm
        simp [ins, look, hx, h, h']
    · by_cases hj : x.1 = j
      · have h : ¬ j = k := fun e => hx (hj.trans e)
        simp [ins, look, hx, hj, h]
      · have : (look (ins (x :: r) k v) j) = look (ins r k v) j := by simp [ins, look, hx, hj]
        rw [this, ih]
        have : look (x :: r) j = look r j := by simp [look, hj]
        rw [this]
theorem wrapI_wf (n : Int) : I64 (IntKind.i64.wrap n) := by
  unfold I64 Lit.wf IntKind.wrap
  simp [IntKind.min, IntKind.max, IntKind.bits, IntKind.signed]
  omega
theorem accQ_val : ∀ (ps : List ((Int × Int) × Int)) (k : Int × Int), I64 (valQ (accQ [] ps) k) := by
  have h : ∀ (ps : List ((Int × Int) × Int)) (s : GsQ), (∀ k, I64 (valQ s k)) → ∀ k, I64 (valQ (accQ s ps) k) := by
    intro ps
    induction ps with
    | nil => intro s hs k; exact hs k
    | cons y r ih =>
      intro s hs k
      refine ih _ (fun j => ?_) k
      rw [valQ_ins]
      split
      · exact wrapI_wf _
      · exact hs j
  exact fun ps => h ps [] (fun k => show I64 0 from by decide)
theorem lnP_len (ms : List Mb) (e : Int) (ls : List Ln) : (lnP ms e ls).length ≤ ls.length := by
  unfold lnP
  rw [List.length_map]
  exact List.length_filter_le _ _
theorem allP_len (ms : List Mb) (p : Int) : ∀ {J : List Jn}, GoodJ J → (allP ms p J).length ≤ 8 * J.length
  | [], _ => by simp [allP]
  | x :: r, h => by
    have ih := allP_len ms p (J := r) (fun y hy => h y (List.mem_cons_of_mem _ hy))
    have hx := (h x (List.mem_cons_self ..)).2
    have h1 : (jnP ms p x).length ≤ 8 := by
      unfold jnP
      split
      · exact Nat.le_trans (lnP_len _ _ _) hx
      · simp
    unfold allP at ih ⊢
    rw [List.flatMap_cons, List.length_append, List.length_cons]
    omega
theorem lnP_snoc (ms : List Mb) (e : Int) (ls : List Ln) (x : Ln) : lnP ms e (ls ++ [x]) = if innB ms x.par then lnP ms e ls ++ [(pkey e x.par, x.amt)] else lnP ms e ls := by
  unfold lnP
  rw [List.filter_append, List.map_append]
  cases h : innB ms x.par <;> simp [h]
theorem allP_succ (ms : List Mb) (p : Int) (J : List Jn) (n : Nat) (hn : n < J.length) : allP ms p (J.take (n + 1)) = allP ms p (J.take n) ++ jnP ms p J[n] := by
  unfold allP
  rw [List.take_succ_eq_append_getElem hn, List.flatMap_append]
  simp
abbrev wkN (g : Nat) (p : Int) (ma : Option Addr) (ms : List Mb) (mc : Nat) : Array Value :=
  #[.pointer none, .pointer (some ⟨g, 0, none⟩), .int .i64 p, .slice ma ms.length mc, .slice none 0 0, .slice none 0 0, .slice none 0 0, .slice none 0 0]
set_option maxHeartbeats 2000000 in
set_option maxRecDepth 100000 in
theorem grInnerN_any {w : World} {W : Nat} {g : Nat} {p : Int} {ma : Option Addr} {ms : List Mb} {mc : Nat} (hw : w.heap[W]? = some (.cells (wkN g p ma ms mc) 96 (0, 0))) {F : Nat → Prop} (hs : Sl tMb w F ma ms) (hl : ms.length ≤ maxLen) (e : Int) :
    Calls Tryz.prog 79 #[.pointer (some ⟨W, 0, none⟩), .int .i64 e] w fun en w' => en = .returned (.bool (innB ms e)) ∧ Below w.heap.size w w' := by
  have hwl := blk_lt hw
  have HW := Lib.hid (blk_alloc hw (.cells #[.int .i64 e] 3))
  have hcc := blk_cells HW.out
  have HS := Lib.hid (Sl.keep (w' := w.alloc (.cells #[.int .i64 e] 3)) (fun k hk _ => Below.heap_alloc w _ k hk) hs)
  have HN := Lib.hid (blk_new w (.cells #[.int .i64 e] 3))
  have HB := Lib.hid ((Below.refl w.heap.size w).alloc (Nat.le_refl _) (.cells #[.int .i64 e] 3))
  have HC := Lib.hid (containsM_any ms ma mc e w.heap.size _ HS.out hl HN.out)
  have hmf : ∀ (fn : Fn) (first cap : Array Value) (w : World), (Instr.makeFunc fn first cap).run Tryz.prog w = .ok (.func fn first cap) w := fun _ _ _ _ => rfl
  clear hw hs
  go_enter Tryz.func79, Tryz.ntmps79
  go_wp2_with fail
  refine HC.out.mono ?_
  rintro en w1 ⟨rfl, hb⟩
  have HB1 := Lib.hid (belows_then HB.out (by simp) hb)
  clear hb
  go_wp2_with fail
  go_ret
  exact ⟨rfl, HB1.out⟩

/-- the pair's three numbers, if they do not come to 0 -/
def trioK (s : GsQ) (k : Int × Int) : List (Int × Int × Int) := if valQ s k == 0 then [] else [(k.1, k.2, valQ s k)]
/-- what Inner tells: trios, and the error -/
def innT (ms : List Mb) (p : Int) (J : List Jn) (ks : List (Int × Int)) : List (Int × Int × Int) × Int :=
  if ks.all (fun k => fitsB (valQ (accQ [] (allP ms p J)) k)) then (ks.flatMap (trioK (accQ [] (allP ms p J))), 0) else ([], 2)
def InnPost (w : World) (t : List (Int × Int × Int) × Int) (e : Ending) (w' : World) : Prop := ∃ v, e = .returned (.tuple #[v, .int .i64 t.2]) ∧ OwnL tA3 w' w.heap.size v t.1 ∧ Below w.heap.size w w'
theorem infoTQ : (Tryz.prog.info? 75).map (fun i => (i.zero, i.size, i.bytes)) = some (some (.agg #[.int .i64 0, .int .i64 0, .int .i64 0]), 3, 24) := by kernel_rfl
theorem a3_one (w : World) (F : Nat → Prop) (c : List Value) (x : Int × Int × Int) (h : tA3.R w F c x) : ∀ u ∈ c, u.oneCell' = true := by
  obtain ⟨rfl, _⟩ := h
  simp [Value.oneCell']
theorem grpQ_len {ms : List Mb} (h : grpB ms = true) : ms.length ≤ 9 := by
  unfold grpB at h
  simp only [Bool.and_eq_true, decide_eq_true_eq] at h
  exact h.2.1
theorem lookQ {w : World} {b : Nat} {s : GsQ} (hM : MapIs mPair (Value.int .i64) w b s) {k : Int × Int} (hk : I64 k.1 ∧ I64 k.2) : ∀ W : World, W.heap[b]? = w.heap[b]? → (Instr.lookup 129 (.map (some b)) (.agg #[.int .i64 k.1, .int .i64 k.2]) false).run Tryz.prog W = .ok (.int .i64 (valQ s k)) W := by
  intro W hW
  have := (hM.keep (w' := W) hW).lookup Tryz.underlying129 (k := k) hk (show (zeroValue 3).run Tryz.prog W = .ok (.int .i64 0) W from by kernel_rfl)
  rw [show mPair.ek k = .agg #[.int .i64 k.1, .int .i64 k.2] from rfl] at this
  rw [this]
  unfold valQ
  cases look s k <;> rfl

set_option maxHeartbeats 8000000 in
set_option maxRecDepth 100000 in
theorem grInnerF_any {w : World} {g : Nat} {p : Int} {ma : Option Addr} {ms : List Mb} {mc : Nat} (hgb : grpB ms = true) (hmo : monthOk p = true) (hp : I64 p)
    {G : Nat → Prop} (hms : Sl tMb w G ma ms) {a : Option Addr} {cap : Nat} {l : List Jn} {F : Nat → Prop} (hbk : BookAt w g a cap l F) (hl : l.length ≤ 100) (hgood : GoodJ l) (L : List F10) (hL : (accQ [] (allP ms p l)).map (·.1) = L.map zF) (hLl : L.length ≤ 1000) :
    Calls Tryz.prog 18 #[.pointer (some ⟨g, 0, none⟩), .int .i64 p, .slice ma ms.length mc] w (InnPost w (innT ms p l ((srtF L).map zF))) := by
  obtain ⟨tr, htr⟩ : ∃ tr, innT ms p l ((srtF L).map zF) = tr := ⟨_, rfl⟩
  rw [htr]
  have HTR := Lib.hid htr
  have HMS := Lib.hid hms
  have HBK := Lib.hid hbk
  have HGOOD := Lib.hid hgood
  have HL := Lib.hid hL
  have HP := Lib.hid hp
  have hml : ms.length ≤ maxLen := by have := grpQ_len hgb; unfold maxLen; omega
  have HCK := Lib.hid (grCheck_any ms ma mc w HMS.out hml)
  rw [hgb] at HCK
  have hl' : l.length ≤ 9223372036854775807 := by omega
  clear hms hbk hgood hL hp htr hgb
  have hmm := @run_makeMap Tryz.prog
  go_enter Tryz.func18, Tryz.ntmps18
  go_wp2_with fail
  refine HCK.out.mono ?_
  rintro en w1 ⟨rfl, hb⟩
  have HB1 := Lib.hid (hb.alloc hb.size (.cells #[.int .i64 p] 3))
  have HN1 := Lib.hid (blk_new w1 (.cells #[.int .i64 p] 3))
  clear hb HCK
  go_wp2_with fail
  refine (term_valid_is p _ _ HN1.out HP.out hmo).mono ?_
  rintro en w2 ⟨rfl, hb⟩
  have HB2 := Lib.hid (belows_then HB1.out HB1.out.size hb)
  clear hb HB1 HN1 hmo
  have HB3 : Hid (Below w2.heap.size w2 ((w2.alloc (.cells (wkN g p ma ms mc) 96)).alloc (.map #[] 0))) := Lib.hid (((Below.refl _ _).alloc (Nat.le_refl _) _).alloc (by simp) _)
  have HW3 := Lib.hid (blk_alloc (blk_new w2 (.cells (wkN g p ma ms mc) 96)) (.map #[] 0))
  have HM3 : Hid (MapIs mPair (Value.int .i64) ((w2.alloc (.cells (wkN g p ma ms mc) 96)).alloc (.map #[] 0)) (w2.heap.size + 1) []) := Lib.hid (by have := MapIs.new mPair (Value.int .i64) (w2.alloc (.cells (wkN g p ma ms mc) 96)); simpa using this)
  have HK3 := Lib.hid ((HBK.out.below HB2.out).below HB3.out)
  have HMS3 : Hid (Sl tMb ((w2.alloc (.cells (wkN g p ma ms mc) 96)).alloc (.map #[] 0)) (fun k => k < w2.heap.size) ma ms) := Lib.hid (Sl.keep (fun k hk _ => HB3.out.block k hk) (Sl.mono (fun k hk _ => hk) (Sl.keep (fun k hk _ => HB2.out.block k hk) HMS.out)))
  go_wp2_with fail
  clear hmm
  refine (ball_any HK3.out (by omega) HGOOD.out.ne).mono ?_
  rintro en3 w3 ⟨v, rfl, ho, hb⟩
  have HOWN := Lib.hid ho.lt
  obtain ⟨a1, c1, rfl, _, _, hsl⟩ := ho.slice
  have hsz3 : w2.heap.size + 2 ≤ w3.heap.size := by have := hb.size; simpa using this
  have HS : Hid (Sl tJn w3 (fun k => w2.heap.size + 2 ≤ k) a1 l) := Lib.hid (Sl.mono (fun k _ hk => by rcases hk with hk | hk; (have := hk.1; simpa using this); (have := (HOWN.out k hk).1; simpa using this)) hsl)
  have HM4 := Lib.hid (HM3.out.keep (hb.block (w2.heap.size + 1) (by simp)))
  have HB4 := Lib.hid (HB3.out.trans (hb.mono (by simp; omega)))
  have HW4 := Lib.hid (blk_below HW3.out hb)
  have HMS4 : Hid (Sl tMb w3 (fun k => k < w2.heap.size) ma ms) := Lib.hid (Sl.keep (fun k hk _ => hb.block k hk) HMS3.out)
  obtain ⟨bm, hbm⟩ : ∃ bm, w2.heap.size + 1 = bm := ⟨_, rfl⟩
  have HBM := Lib.hid hbm
  rw [hbm] at HM4
  clear ho hb hsl HOWN HM3 HK3 HB3 HW3 HMS3 HBK HMS
  simp only [hbm]
  clear hbm
  go_wp2_with fail
  go_loopw [11, 13, 39, 61] (fun v11 v13 vi v61 wr => ∃ n : Nat, n ≤ l.length ∧ vi = .int .i64 n ∧ MapIs mPair (Value.int .i64) wr bm (accQ [] (allP ms p (l.take n))) ∧ But (· = bm) w3 wr) (fun _ _ vi _ _ => l.length - (Go.RowKit.intOf vi).toNat)
  case atStart => exact ⟨0, Nat.zero_le _, rfl, HM4.out, But.refl _ _⟩
  case round =>
    obtain ⟨n, hn, rfl, hm, hbut⟩ := hrel
    have HMR := Lib.hid hm
    have HBR := Lib.hid hbut
    have hbme := HBM.out
    clear hm hbut
    by_cases hlt : n < l.length
    · obtain ⟨ad, la, lc, rfl, _, hadl, hc0, hc1, hc2, hc3, hc4, hc5, hr⟩ := jn_at (Sl.keep (fun k hk hF => HBR.out.block k hk (fun e => by have hF' : w2.heap.size + 2 ≤ k := hF; omega)) HS.out) n hlt
      obtain ⟨_, hen64, _, _, hln, hll, hlc, _⟩ := jcs_inv hr
      have HEN := Lib.hid hen64
      have HLN5 : Hid (Sl tLn wr (fun k => w2.heap.size + 2 ≤ k) la l[n].lines) := Lib.hid hln
      have HSU := Lib.hid (allP_succ ms p l n hlt)
      have hlen : l[n].lines.length ≤ 9223372036854775807 := by unfold maxLen at hlc; omega
      have h8 := (HGOOD.out _ (List.getElem_mem hlt)).2
      have hSl : (allP ms p (l.take n)).length ≤ 800 := by
        have := allP_len ms p (J := l.take n) (fun x hx => HGOOD.out x (List.mem_of_mem_take hx))
        rw [List.length_take] at this
        omega
      generalize l[n] = j at *
      obtain ⟨j1, j2, j3, j4, j5, j6⟩ := j
      simp only at hc0 hc1 hc2 hc3 hc4 hc5 hlen HLN5 h8
      generalize hS : allP ms p (l.take n) = S at *
      clear hr hln hll hlc hS hen64
      have hjge : bm < wr.heap.size := HMR.out.lt
      have HBX := Lib.hid (HBR.out.alloc (.cells #[.int .i64 j1, .int .i64 j2, .int .i64 j3, .string j4, .slice la j5.length lc, .bool j6] 81))
      have HMX := Lib.hid (HMR.out.keep (Below.heap_alloc wr (.cells #[.int .i64 j1, .int .i64 j2, .int .i64 j3, .string j4, .slice la j5.length lc, .bool j6] 81) bm HMR.out.lt))
      have HJX := Lib.hid (blk_new wr (.cells #[.int .i64 j1, .int .i64 j2, .int .i64 j3, .string j4, .slice la j5.length lc, .bool j6] 81))
      have HSX : Hid (Sl tLn (wr.alloc (.cells #[.int .i64 j1, .int .i64 j2, .int .i64 j3, .string j4, .slice la j5.length lc, .bool j6] 81)) (fun k => w2.heap.size + 2 ≤ k) la j5) := Lib.hid (Sl.keep (fun k hk _ => Below.heap_alloc wr _ k hk) HLN5.out)
      have HWX := Lib.hid ((HBX.out.block w2.heap.size (by omega) (by omega)).trans HW4.out)
      have HMSX : Hid (Sl tMb (wr.alloc (.cells #[.int .i64 j1, .int .i64 j2, .int .i64 j3, .string j4, .slice la j5.length lc, .bool j6] 81)) (fun k => k < w2.heap.size) ma ms) := Lib.hid (Sl.keep (fun k hk hF => HBX.out.block k hk (fun e => by have hF' : k < w2.heap.size := hF; omega)) HMS4.out)
      have HCI := Lib.hid (grInnerN_any HWX.out HMSX.out hml j2)
      clear HMR HLN5
      rcases (show j6 = true ∨ j6 = false ∧ (p < j3 ∨ ¬ p < j3) by cases j6 <;> simp <;> omega) with rfl | ⟨rfl, hpj | hpj⟩
      · have HN : Hid (allP ms p (l.take (n + 1)) = S) := Lib.hid (by rw [HSU.out]; simp [jnP, jnB])
        go_wp2_with fail
        go_roundw
        case rel => exact ⟨n + 1, by omega, by go_num, by rw [HN.out]; exact HMX.out, HBX.out⟩
        case measure => simp [Go.RowKit.intOf]; omega
      · have HN : Hid (allP ms p (l.take (n + 1)) = S) := Lib.hid (by rw [HSU.out]; simp [jnP, jnB, hpj])
        go_wp2_with fail
        go_roundw
        case rel => exact ⟨n + 1, by omega, by go_num, by rw [HN.out]; exact HMX.out, HBX.out⟩
        case measure => simp [Go.RowKit.intOf]; omega
      · cases hin : innB ms j2
        · have HN : Hid (allP ms p (l.take (n + 1)) = S) := Lib.hid (by rw [HSU.out]; simp [jnP, jnB, hin])
          rw [hin] at HCI
          clear hin
          go_wp2_with fail
          refine HCI.out.mono ?_
          rintro en4 w4 ⟨rfl, hb⟩
          have HM5 := Lib.hid (HMX.out.keep (hb.block bm HMX.out.lt))
          have HB5 := Lib.hid (HBX.out.call hb)
          clear hb
          go_wp2_with fail
          go_roundw
          case rel => exact ⟨n + 1, by omega, by go_num, by rw [HN.out]; exact HM5.out, HB5.out⟩
          case measure => simp [Go.RowKit.intOf]; omega
        · have HN : Hid (allP ms p (l.take (n + 1)) = S ++ lnP ms j2 j5) := Lib.hid (by rw [HSU.out]; simp [jnP, jnB, hin, hpj])
          rw [hin] at HCI
          clear hin
          go_wp2_with fail
          refine HCI.out.mono ?_
          rintro en4 w4 ⟨rfl, hb⟩
          have HM5 := Lib.hid (HMX.out.keep (hb.block bm HMX.out.lt))
          have HB5 := Lib.hid (HBX.out.call hb)
          have HJ5 := Lib.hid (blk_below HJX.out hb)
          have HS5 := Lib.hid (Sl.keep (fun k hk _ => hb.block k hk) HSX.out)
          have hjc5 := blk_cells HJ5.out
          have hjl5 := blk_lt HJ5.out
          obtain ⟨jb, hjb⟩ : ∃ jb, wr.heap.size = jb := ⟨_, rfl⟩
          rw [hjb] at hjge HJ5 hjc5 hjl5 ⊢
          clear hjb
          clear hb HCI HWX HMSX HMX HBX HJX HSX hc0 hc1 hc2 hc3 hc4 hc5 hadl
          go_wp2_with fail
          go_loopw [13, 61] (fun v13 vk wi => ∃ m : Nat, m ≤ j5.length ∧ vk = .int .i64 m ∧ MapIs mPair (Value.int .i64) wi bm (accQ [] (S ++ lnP ms j2 (j5.take m))) ∧ But (· = bm) w4 wi) (fun _ vk _ => j5.length - (Go.RowKit.intOf vk).toNat)
          case atStart => exact ⟨0, Nat.zero_le _, rfl, by rw [List.take_zero]; simpa [lnP] using HM5.out, But.refl _ _⟩
          case round =>
            obtain ⟨m, hm, rfl, hmi, hbi⟩ := hrel
            have HMI := Lib.hid hmi
            have HBI := Lib.hid (HB5.out.trans hbi)
            have HB2I := Lib.hid hbi
            clear hmi hbi hjc5 hjl5
            by_cases hlm : m < j5.length
            · obtain ⟨ad2, rfl, _, hadl2, hq0, hq1, hq2, g0, g1, g2⟩ := ln_at (Sl.keep (fun k hk hF => HB2I.out.block k hk (fun e => by have hF' : w2.heap.size + 2 ≤ k := hF; omega)) HS5.out) m hlm
              have hts := List.take_succ_eq_append_getElem hlm
              obtain ⟨⟨x1, x2, x3⟩, hx⟩ : ∃ x, j5[m] = x := ⟨_, rfl⟩
              rw [hx] at hq0 hq1 hq2 g0 g1 g2 hts
              simp only at hq0 hq1 hq2 g0 g1 g2
              have HLP := Lib.hid (lnP_snoc ms j2 (j5.take m) ⟨x1, x2, x3⟩)
              rw [← hts] at HLP
              obtain ⟨LS, hLS⟩ : ∃ LS, S ++ lnP ms j2 (j5.take m) = LS := ⟨_, rfl⟩
              rw [hLS] at HMI
              have HLS := Lib.hid hLS
              have HJI := Lib.hid ((HB2I.out.block jb (blk_lt HJ5.out) (by omega)).trans HJ5.out)
              have HWI := Lib.hid (blk_alloc ((HBI.out.block w2.heap.size (by omega) (by omega)).trans HW4.out) (.cells #[.int .i64 x1, .int .i64 x2, .int .i64 x3] 74))
              have HMSI : Hid (Sl tMb (wr.alloc (.cells #[.int .i64 x1, .int .i64 x2, .int .i64 x3] 74)) (fun k => k < w2.heap.size) ma ms) := Lib.hid (Sl.keep (fun k hk _ => Below.heap_alloc wr _ k hk) (Sl.keep (fun k hk hF => HBI.out.block k hk (fun e => by have hF' : k < w2.heap.size := hF; omega)) HMS4.out))
              have HC := Lib.hid (grInnerN_any HWI.out HMSI.out hml x3)
              have HLN := Lib.hid (blk_new wr (.cells #[.int .i64 x1, .int .i64 x2, .int .i64 x3] 74))
              have HMA := Lib.hid (HMI.out.keep (Below.heap_alloc wr (.cells #[.int .i64 x1, .int .i64 x2, .int .i64 x3] 74) bm HMI.out.lt))
              have G2 := Lib.hid g2
              clear g0 g1 g2 hLS hx hts
              cases hin : innB ms x3
              · rw [hin] at HC HLP
                have HN1 : Hid (S ++ lnP ms j2 (j5.take (m + 1)) = LS) := Lib.hid (by rw [HLP.out]; exact HLS.out)
                clear hin
                go_wp2_with fail
                refine HC.out.mono ?_
                rintro en5 w5 ⟨rfl, hb⟩
                have HM6 := Lib.hid (HMA.out.keep (hb.block bm HMA.out.lt))
                have HBU6 := Lib.hid (((HB2I.out.alloc (.cells #[.int .i64 x1, .int .i64 x2, .int .i64 x3] 74))).call hb)
                clear hb hq0 hq1 hq2 hadl2 HC
                go_wp2_with fail
                go_roundw
                case rel => exact ⟨m + 1, by omega, by go_num, by rw [HN1.out]; exact HM6.out, HBU6.out⟩
                case measure => simp [Go.RowKit.intOf]; omega
              · rw [hin] at HC HLP
                have HN1 : Hid (accQ [] (S ++ lnP ms j2 (j5.take (m + 1))) = ins (accQ [] LS) (pkey j2 x3) (IntKind.i64.wrap (valQ (accQ [] LS) (pkey j2 x3) + x2))) := Lib.hid (by rw [HLP.out]; simp only [if_true]; rw [← List.append_assoc, HLS.out, accQ_snoc])
                clear hin
                go_wp2_with fail
                refine HC.out.mono ?_
                rintro en5 w5 ⟨rfl, hb⟩
                have hAl : (accQ [] LS).length ≤ maxLen := by
                  have h1 := accQ_len LS []
                  have h2 := lnP_len ms j2 (j5.take m)
                  rw [List.length_take] at h2
                  have h3 : LS.length = S.length + (lnP ms j2 (j5.take m)).length := by rw [← HLS.out, List.length_append]
                  simp only [List.length_nil] at h1
                  unfold maxLen
                  omega
                obtain ⟨A, hA⟩ : ∃ A, accQ [] LS = A := ⟨_, rfl⟩
                rw [hA] at HN1 HMA hAl
                have HM6 := Lib.hid (HMA.out.keep (hb.block bm HMA.out.lt))
                have HBU6 := Lib.hid (((HB2I.out.alloc (.cells #[.int .i64 x1, .int .i64 x2, .int .i64 x3] 74))).call hb)
                have HJ6 := Lib.hid (blk_below (blk_alloc HJI.out (.cells #[.int .i64 x1, .int .i64 x2, .int .i64 x3] 74)) hb)
                have HL6 := Lib.hid (blk_below HLN.out hb)
                have hlge : bm < wr.heap.size := HMI.out.lt
                have HOK : Hid (I64 (pkey j2 x3).1 ∧ I64 (pkey j2 x3).2) := Lib.hid (pkey_ok HEN.out G2.out)
                clear hb hq0 hq1 hq2 hadl2 HC hA
                have HCE : Hid (∀ W : World, W.heap[jb]? = w5.heap[jb]? → W.heap[wr.heap.size]? = w5.heap[wr.heap.size]? → (W.cell? ⟨jb, 1, none⟩ = some (.int .i64 j2) ∧ W.cell? ⟨wr.heap.size, 2, none⟩ = some (.int .i64 x3) ∧ W.cell? ⟨wr.heap.size, 1, none⟩ = some (.int .i64 x2))) := Lib.hid (fun W h1 h2 => ⟨by rw [blk_cells (h1.trans HJ6.out)]; rfl, by rw [blk_cells (h2.trans HL6.out)]; rfl, by rw [blk_cells (h2.trans HL6.out)]; rfl⟩)
                have hlk : (Instr.lookup 129 (.map (some bm)) (.agg #[.int .i64 (min j2 x3), .int .i64 (max j2 x3)]) false).run Tryz.prog w5.drew = .ok (.int .i64 (valQ A (pkey j2 x3))) w5.drew := lookQ HM6.out HOK.out w5.drew rfl
                have HMD : Hid (MapIs mPair (Value.int .i64) w5.drew bm A) := Lib.hid (HM6.out.keep rfl)
                obtain ⟨v0, st, w7, hme0, ho7, hent⟩ := HMD.out.entry hAl law_pairQ Tryz.underlying129 (fun u => (by kernel_rfl : (zeroValue 3).run Tryz.prog u = .ok (.int .i64 0) u)) HOK.out
                obtain ⟨w8, hes0, hm8, ho8⟩ := hent w7 (IntKind.i64.wrap (valQ A (pkey j2 x3) + x2)) rfl
                have hme : (Instr.mapEntry 129 (.map (some bm)) (.agg #[.int .i64 (min j2 x3), .int .i64 (max j2 x3)])).run Tryz.prog w5.drew = .ok (.tuple #[v0, goInt st]) w7 := hme0
                have hes : (Instr.entryStore 129 (.map (some bm)) (goInt st) (.int .i64 (IntKind.i64.wrap (valQ A (pkey j2 x3) + x2)))).run Tryz.prog w7 = .ok () w8 := hes0
                have hk7 : w7.heap[jb]? = w5.heap[jb]? ∧ w7.heap[wr.heap.size]? = w5.heap[wr.heap.size]? := ⟨ho7.heap (by omega), ho7.heap (by omega)⟩
                have HK8 : Hid (w8.heap[jb]? = w5.heap[jb]? ∧ w8.heap[wr.heap.size]? = w5.heap[wr.heap.size]?) := Lib.hid ⟨(ho8.heap (by omega)).trans hk7.1, (ho8.heap (by omega)).trans hk7.2⟩
                have HK7 := Lib.hid hk7
                have HKD : Hid (w5.drew.heap[jb]? = w5.heap[jb]? ∧ w5.drew.heap[wr.heap.size]? = w5.heap[wr.heap.size]?) := Lib.hid ⟨rfl, rfl⟩
                have HM8 := Lib.hid hm8
                have HBU8 := Lib.hid ((HBU6.out.drew.only ho7 (.inl rfl)).only ho8 (.inl rfl))
                obtain ⟨S1, hS1⟩ : ∃ t, goInt st = t := ⟨_, rfl⟩
                rw [hS1] at hme hes
                have hlk7 : (Instr.lookup 129 (.map (some bm)) (.agg #[.int .i64 (min j2 x3), .int .i64 (max j2 x3)]) false).run Tryz.prog w7 = .ok (.int .i64 (valQ A (pkey j2 x3))) w7 := HMD.out.entry_look Tryz.underlying129 0 (fun u => (by kernel_rfl : (zeroValue 3).run Tryz.prog u = .ok (.int .i64 0) u)) HOK.out hme0 w7 rfl
                clear hent hme0 hes0 ho7 ho8 hk7 hm8 hS1
                go_wp2_with fail
                go_region_held3 (fun w' => w'.cell? ⟨jb, 1, none⟩ = some (.int .i64 j2) ∧ w'.cell? ⟨wr.heap.size, 2, none⟩ = some (.int .i64 x3) ∧ w'.cell? ⟨wr.heap.size, 1, none⟩ = some (.int .i64 x2)) (first | exact HCE.out _ HKD.out.1 HKD.out.2 | exact HCE.out _ HK7.out.1 HK7.out.2 | exact HCE.out _ HK8.out.1 HK8.out.2) (fail)
                all_goals
                  go_wp2_with fail
                  go_roundw
                  case rel => exact ⟨m + 1, by omega, by go_num, by rw [HN1.out]; exact HM8.out, HBU8.out⟩
                  case measure => simp [Go.RowKit.intOf]; omega
            · have HLL : Hid (S ++ lnP ms j2 (j5.take m) = allP ms p (l.take (n + 1))) := Lib.hid (by rw [HN.out, take_all hm hlm])
              have hmi := HMI.out
              rw [HLL.out] at hmi
              have HMF := Lib.hid hmi
              clear hmi
              go_wp2_with fail
              go_roundw
              case rel => exact ⟨n + 1, by omega, by go_num, HMF.out, HBI.out⟩
              case measure => simp [Go.RowKit.intOf]; omega
    · have HLL : Hid (l.take n = l) := Lib.hid (take_all hn hlt)
      have hmi := HMR.out
      have hsl := allP_len ms p HGOOD.out
      have hsa := accQ_len (allP ms p l) []
      have hte := HTR.out
      unfold innT at hte
      rw [HLL.out] at hmi
      have hval : ∀ k, I64 (valQ (accQ [] (allP ms p l)) k) := accQ_val _
      obtain ⟨s, hs⟩ : ∃ s, accQ [] (allP ms p l) = s := ⟨_, rfl⟩
      have hlL := HL.out
      rw [hs] at hmi hsa hte hlL hval
      simp only [List.length_nil] at hsa
      have hsl2 : s.length ≤ 1000 := by omega
      have hbl := hmi.lt
      have HBW : Hid (Below w.heap.size w wr) := Lib.hid (But.toBelow (HB2.out.trans (HB4.out.mono HB2.out.size)) HBR.out (fun k e => by have := HBM.out; have := HB2.out.size; omega) (by have := HB2.out.size; omega))
      have HM := Lib.hid hmi
      have HTE := Lib.hid hte
      have HVAL := Lib.hid hval
      have hM1 : MapIs mPair (Value.int .i64) (wr.alloc (.cells #[.map (some bm)] 129)) bm s := HM.out.keep (Below.heap_alloc wr _ bm hbl)
      have HC := Lib.hid (sortedQ_any wr.heap.size bm s L hlL (wr.alloc (.cells #[.map (some bm)] 129)) (by simp) (by rw [blk_cells (blk_new wr (.cells #[.map (some bm)] 129)) 0]; rfl) hM1 hsl2)
      have hok : ∀ k ∈ (srtF L).map zF, I64 k.1 ∧ I64 k.2 := fun k hk => by
        obtain ⟨x, _, rfl⟩ := List.mem_map.1 hk
        exact ⟨small64 _ x.1.isLt, small64 _ x.2.isLt⟩
      have hkl : ((srtF L).map zF).length = L.length := by rw [List.length_map, srtF_len]
      obtain ⟨ks, hks⟩ : ∃ ks, (srtF L).map zF = ks := ⟨_, rfl⟩
      rw [hks] at hok hkl HTE
      have HKS := Lib.hid hks
      have HOKS := Lib.hid hok
      clear hmi hsl hsa hte hval hs hlL hM1 hsl2 hok hks HMR HBR HS HM4 HB4 HW4 HMS4 HTR HL HLL
      go_wp2_with fail
      refine ((callsIn_wide (n := 1)).1 (keysQ_in _ 1 _)).mono ?_
      rintro e4 w4 ⟨rfl, rfl⟩
      go_wp2_with fail
      refine HC.out.mono ?_
      rintro e5 w5 ⟨ka0, kc0, rfl, hsk, hb⟩
      have HB5 := Lib.hid (belows_then ((Below.refl wr.heap.size wr).alloc (Nat.le_refl _) (.cells #[.map (some bm)] 129)) (by simp) hb)
      have HB6 := Lib.hid (belows_then HBW.out HBW.out.size HB5.out)
      have HM5 := Lib.hid (HM.out.keep (HB5.out.block bm hbl))
      have hbl5 := HM5.out.lt
      rw [HKS.out] at hsk
      have HSK := Lib.hid hsk
      rw [← hkl]
      have hkl2 : ks.length ≤ 1000 := by omega
      clear hb hsk HC HM hbl HB5 hkl
      obtain ⟨i0, hi0, hz0, hz1, hz2⟩ := info_parts infoTQ
      go_wp2_with fail
      go_loopw [14, 93] (fun vo vi wr => ∃ (i : Nat) (vx : Value), vx = vo ∧ i ≤ ks.length ∧ vi = .int .i64 i ∧ OwnL tA3 wr w5.heap.size vx ((ks.take i).flatMap (trioK s)) ∧ Below w5.heap.size w5 wr ∧ Hid ((ks.take i).all (fun k => fitsB (valQ s k)) = true)) (fun _ vi _ => ks.length - (Go.RowKit.intOf vi).toNat)
      case atStart => exact ⟨0, _, rfl, Nat.zero_le _, rfl, OwnL.nil _ _, Below.refl _ _, Lib.hid rfl⟩
      case round =>
        obtain ⟨i, vo, rfl, hi, rfl, ho, hb, hfit⟩ := hrel
        have HO := Lib.hid ho
        have HBR := Lib.hid hb
        clear ho hb
        by_cases hlt2 : i < ks.length
        · obtain ⟨ad, rfl, _, hadl, hc0, hc1, _, _⟩ := pair_at (Sl.keep (fun k hk _ => HBR.out.block k hk) HSK.out) i hlt2
          have hts := List.take_succ_eq_append_getElem hlt2
          have hok := HOKS.out _ (List.getElem_mem hlt2)
          have HNO : Hid (fitsB (valQ s ks[i]) = false → tr = ([], 2)) := Lib.hid (fun h => by
            have : ks.all (fun k => fitsB (valQ s k)) = false := by
              rw [List.all_eq_false]
              exact ⟨_, List.getElem_mem hlt2, by simp [h]⟩
            rw [← HTE.out, this]
            rfl)
          have hlen : ((ks.take i).flatMap (trioK s)).length ≤ 1000 := by
            have : ∀ l : List (Int × Int), (l.flatMap (trioK s)).length ≤ l.length := fun l => by
              induction l with
              | nil => simp
              | cons x r ih =>
                rw [List.flatMap_cons, List.length_append, List.length_cons]
                have : (trioK s x).length ≤ 1 := by unfold trioK; split <;> simp
                omega
            have h := this (ks.take i)
            rw [List.length_take] at h
            omega
          obtain ⟨⟨ka, kb⟩, hk⟩ : ∃ k, ks[i] = k := ⟨_, rfl⟩
          rw [hk] at hc0 hc1 hok HNO hts
          simp only at hc0 hc1 hok
          obtain ⟨v, hv⟩ : ∃ v, valQ s (ka, kb) = v := ⟨_, rfl⟩
          have HFA : Hid (fitsB v = true → (ks.take (i + 1)).all (fun k => fitsB (valQ s k)) = true) := Lib.hid (fun h => by rw [hts, List.all_append, hfit.out]; simp [hv, h])
          have HTK : Hid ((ks.take (i + 1)).flatMap (trioK s) = (ks.take i).flatMap (trioK s) ++ (if v == 0 then [] else [(ka, kb, v)])) := Lib.hid (by rw [hts, List.flatMap_append, ← hv]; simp [trioK])
          have HV64 : Hid (I64 v) := Lib.hid (by rw [← hv]; exact HVAL.out _)
          have HLK : Hid (∀ W : World, W.heap[bm]? = w5.heap[bm]? → (Instr.lookup 129 (.map (some bm)) (.agg #[.int .i64 ka, .int .i64 kb]) false).run Tryz.prog W = .ok (.int .i64 v) W) := Lib.hid (fun W hW => by have := lookQ HM5.out (k := (ka, kb)) hok W hW; rw [hv] at this; exact this)
          rw [hv] at HNO
          obtain ⟨X, hX⟩ : ∃ X, (ks.take i).flatMap (trioK s) = X := ⟨_, rfl⟩
          rw [hX] at HO HTK hlen
          have HOK2 := Lib.hid hok
          have hbr : wr.heap[bm]? = w5.heap[bm]? := HBR.out.block bm hbl5
          have hbw : bm < wr.heap.size := Nat.lt_of_lt_of_le hbl5 HBR.out.size
          have hvo : vo.ownBlock ≠ some wr.heap.size := fun e => by have := (HO.out.lt _ e).2; omega
          have HPB := Lib.hid (blk_new wr (.cells #[.int .i64 ka, .int .i64 kb] 131))
          have hpc := blk_cells HPB.out
          have hpl := blk_lt HPB.out
          have HBP : Hid (Below wr.heap.size wr (wr.alloc (.cells #[.int .i64 ka, .int .i64 kb] 131))) := Lib.hid ((Below.refl _ _).alloc (Nat.le_refl _) _)
          have hlk1 := HLK.out (wr.alloc (.cells #[.int .i64 ka, .int .i64 kb] 131)) ((Below.heap_alloc wr _ bm hbw).trans hbr)
          have HIC : Hid (((wr.alloc (.cells #[.int .i64 ka, .int .i64 kb] 131)).alloc (.cells #[.int .i64 v] 3)).heap[wr.heap.size + 1]? = some (.cells #[.int .i64 v] 3 (0, 0))) := Lib.hid (by have := blk_new (wr.alloc (.cells #[.int .i64 ka, .int .i64 kb] 131)) (.cells #[.int .i64 v] 3); simpa using this)
          have HB7 := Lib.hid (((HBR.out.alloc HBR.out.size (.cells #[.int .i64 ka, .int .i64 kb] 131)).alloc (by have := HBR.out.size; simp; omega) (.cells #[.int .i64 v] 3)))
          have HO7 := Lib.hid ((HO.out.alloc (.cells #[.int .i64 ka, .int .i64 kb] 131)).alloc (.cells #[.int .i64 v] 3))
          have HP7 := Lib.hid (blk_alloc HPB.out (.cells #[.int .i64 v] 3))
          clear hts hok hv hX hk
          go_wp2_with fail
          cases hfv : fitsB v
          · have HR := Lib.hid (HNO.out hfv)
            refine (mfits_lo v _ _ HIC.out HV64.out hfv).mono ?_
            rintro en w6 ⟨rfl, hb⟩
            have HB8 := Lib.hid (belows_then HB7.out HB7.out.size hb)
            clear hb hfv hc0 hc1 hadl hlk1
            go_wp2_with fail
            go_ret2
            rw [HR.out]
            exact ⟨_, rfl, OwnL.nil _ _, belows_then HB6.out HB6.out.size HB8.out⟩
          · have HF := Lib.hid (HFA.out hfv)
            refine (mfits_lo v _ _ HIC.out HV64.out hfv).mono ?_
            rintro en w6 ⟨rfl, hb⟩
            have HB8 := Lib.hid (belows_then HB7.out HB7.out.size hb)
            have HO8 := Lib.hid (HO7.out.below hb)
            have HP8 := Lib.hid (blk_below HP7.out hb)
            have hpc8 := blk_cells HP8.out
            have hpl8 := blk_lt HP8.out
            have hlk8 := HLK.out w6 (HB8.out.block bm hbl5)
            clear hb hfv hc0 hc1 hadl hlk1 hpc hpl HO HO7 HP7 HPB HIC HB7 HFA HNO
            cases hv0 : v == 0
            · have hv1 : (v != 0) = true := by simpa using hv0
              have HN : Hid ((ks.take (i + 1)).flatMap (trioK s) = X ++ [(ka, kb, v)]) := Lib.hid (by rw [HTK.out, hv0]; rfl)
              have hlkd : (Instr.lookup 129 (.map (some bm)) (.agg #[.int .i64 ka, .int .i64 kb]) false).run Tryz.prog w6.drew = .ok (.int .i64 v) w6.drew := HLK.out w6.drew (HB8.out.block bm hbl5)
              have hbn : (w6.alloc (.cells #[.int .i64 ka, .int .i64 kb, .int .i64 v] 75)).drew.heap[w6.heap.size]? = some (.cells #[.int .i64 ka, .int .i64 kb, .int .i64 v] 75 (0, 0)) := blk_new w6 (.cells #[.int .i64 ka, .int .i64 kb, .int .i64 v] 75)
              have HOA : Hid (OwnL tA3 ((w6.alloc (.cells #[.int .i64 ka, .int .i64 kb, .int .i64 v] 75)).drew) w5.heap.size vo X) := Lib.hid ((HO8.out.alloc (.cells #[.int .i64 ka, .int .i64 kb, .int .i64 v] 75)).keep (Nat.le_refl _) (fun _ _ => rfl))
              have HBA := Lib.hid ((HB8.out.alloc HB8.out.size (.cells #[.int .i64 ka, .int .i64 kb, .int .i64 v] 75)).drew)
              have HSP : Hid (Sl tA3 ((w6.alloc (.cells #[.int .i64 ka, .int .i64 kb, .int .i64 v] 75)).drew) (fun kk => some kk ≠ vo.ownBlock ∧ kk < ((w6.alloc (.cells #[.int .i64 ka, .int .i64 kb, .int .i64 v] 75)).drew).heap.size) (some ⟨w6.heap.size, 0, none⟩) [((ka, kb, v) : Int × Int × Int)]) := Lib.hid (sl_block [((ka, kb, v) : Int × Int × Int)] [[.int .i64 ka, .int .i64 kb, .int .i64 v]] rfl (by simp; rfl) hbn ⟨fun e => by have := (HO8.out.lt _ e.symm).2; exact absurd this (Nat.lt_irrefl _), blk_lt hbn⟩ (fun i c x hi hx => by
                match i, hi, hx with
                | 0, hi, hx => simp at hi hx; subst hi; subst hx; exact ⟨rfl, HOK2.out.1, HOK2.out.2, HV64.out⟩
                | i + 1, hi, hx => simp at hi))
              have h63 : X.length + [((ka, kb, v) : Int × Int × Int)].length ≤ maxLen := by simp only [List.length_cons, List.length_nil]; unfold maxLen; omega
              have hby : (X.length + [((ka, kb, v) : Int × Int × Int)].length) * 24 ≤ 140737488355328 := by simp only [List.length_cons, List.length_nil]; omega
              have HCE : Hid (∀ W : World, W.heap[wr.heap.size]? = w6.heap[wr.heap.size]? → (W.cell? ⟨wr.heap.size, 0, none⟩ = some (.int .i64 ka) ∧ W.cell? ⟨wr.heap.size, 1, none⟩ = some (.int .i64 kb))) := Lib.hid (fun W h => ⟨by rw [blk_cells (h.trans HP8.out)]; rfl, by rw [blk_cells (h.trans HP8.out)]; rfl⟩)
              have HKD : Hid (w6.drew.heap[wr.heap.size]? = w6.heap[wr.heap.size]?) := Lib.hid rfl
              have HKA : Hid ((w6.alloc (.cells #[.int .i64 ka, .int .i64 kb, .int .i64 v] 75)).drew.heap[wr.heap.size]? = w6.heap[wr.heap.size]?) := Lib.hid (Below.heap_alloc w6 _ _ hpl8)
              have hvne : some wr.heap.size ≠ vo.ownBlock := fun e => hvo e.symm
              clear hv0 hbn
              go_wp2_with fail
              go_region_held3 (fun w' => w'.cell? ⟨wr.heap.size, 0, none⟩ = some (.int .i64 ka) ∧ w'.cell? ⟨wr.heap.size, 1, none⟩ = some (.int .i64 kb)) (first | exact HCE.out _ HKD.out | exact HCE.out _ HKA.out | exact HCE.out _ HK9.out) ((refine step_app (T := tA3) rfl (.tmp 109) (.tmp 118) 64 rfl i0 (.agg #[.int .i64 0, .int .i64 0, .int .i64 0]) 24 Tryz.underlying64 hi0 hz0 hz1 hz2 rfl (by decide) a3_one w5.heap.size vo X (by simp [Act.eval, Act.put]) HOA.out ⟨w6.heap.size, 0, none⟩ 1 [((ka, kb, v) : Int × Int × Int)] (by simp [Act.eval, Act.put]) HSP.out h63 hby HBA.out.size ?_; intro v9 w9 hown hg hat; have HO9 := Lib.hid hown; have HB9 := Lib.hid (Below.grown HBA.out hg HBA.out.size (fun k e => (HOA.out.lt k e).1)); have HK9 : Hid (w9.heap[wr.heap.size]? = w6.heap[wr.heap.size]?) := Lib.hid ((hg.block _ (by show wr.heap.size < (w6.alloc (.cells #[.int .i64 ka, .int .i64 kb, .int .i64 v] 75)).heap.size; simp; omega) hvne).trans HKA.out); clear hown hg hat))
              all_goals
                go_wp2_with fail
                go_roundw
                case rel => exact ⟨i + 1, _, rfl, by omega, by go_num, by rw [HN.out]; exact HO9.out, HB9.out, HF⟩
                case measure => simp [Go.RowKit.intOf]; omega
            · have hv1 : (v != 0) = false := by simpa using hv0
              have HN : Hid ((ks.take (i + 1)).flatMap (trioK s) = X) := Lib.hid (by rw [HTK.out, hv0]; simp)
              clear hv0
              go_wp2_with fail
              go_roundw
              case rel => exact ⟨i + 1, _, rfl, by omega, by go_num, by rw [HN.out]; exact HO8.out, HB8.out, HF⟩
              case measure => simp [Go.RowKit.intOf]; omega
        · have HKA : Hid (ks.take i = ks) := Lib.hid (take_all hi hlt2)
          have ho := HO.out
          have hf := hfit.out
          rw [HKA.out] at ho hf
          have hR := HTE.out
          rw [hf, if_pos rfl] at hR
          have HR := Lib.hid hR
          have HOF := Lib.hid (ho.mono HB6.out.size)
          have HBF := Lib.hid (belows_then HB6.out HB6.out.size HBR.out)
          clear ho hf hR
          go_wp2_with fail
          go_ret2
          rw [← HR.out]
          exact ⟨_, rfl, HOF.out, HBF.out⟩
end Go.Proofs.YtgggpaacagbmcaaGreat
