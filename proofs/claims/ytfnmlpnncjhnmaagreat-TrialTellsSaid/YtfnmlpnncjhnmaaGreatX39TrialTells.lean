/- variorumbook: growBalances, walked. -/
import Derived.Test.YtfnmlpnncjhnmaaGreatX38TrialTells
set_option linter.unusedVariables false
set_option linter.unusedSimpArgs false
namespace Go.Proofs.YtfnmlpnncjhnmaaGreat
open Go.RowKit Go.Maps Go.Deep

theorem mark1 {w w2 : World} {v : Value} {n q m : Nat} (h : OwnL tBal w2 w.heap.size v (marks n q m)) (hm : 0 < m) : ∃ g c, v = .slice (some ⟨g, 0, none⟩) (marks n q m).length c ∧ w.heap.size ≤ g ∧ Sl tBal w2 (fun _ => True) (some ⟨g, 0, none⟩) (marks n q m) := by
  have hl := marks_len n q m
  have hlt := h.lt
  rcases h.form with ⟨_, h0⟩ | ⟨g, c, rfl, _⟩
  · rw [h0] at hl; simp at hl; omega
  · exact ⟨g, c, rfl, (hlt g rfl).1, h.sl⟩
theorem sl_far {wk w2 : World} {u : Value} {xs ys : List (Int × Int)} {base g : Nat} (hs : Sl tBal w2 (fun _ => True) (some ⟨g, 0, none⟩) ys) (ho : OwnL tBal wk base u xs) (hg : wk.heap.size ≤ g) : Sl tBal w2 (fun k => some k ≠ u.ownBlock ∧ k < w2.heap.size) (some ⟨g, 0, none⟩) ys := by
  intro i x hx
  obtain ⟨ad, ces, ha, _, hlt, hc, hr⟩ := hs i x hx
  injection ha with ha
  subst ha
  refine ⟨_, ces, rfl, ⟨fun e => ?_, hlt⟩, hlt, hc, bal_free _ _ _ _ _ hr⟩
  have := (ho.lt _ e.symm).2
  have h2 : g < wk.heap.size := this
  omega

theorem sl_oneV {w : World} {F : Nat → Prop} {b : Nat} {a : Option Addr} {n c : Nat} (hb : w.heap[b]? = some (.cells #[.slice a n c] 32 (0, 0))) (hF : F b) : Sl tBalV w F (some ⟨b, 0, none⟩) [.slice a n c] := by
  intro i y hi
  cases i with
  | succ i => simp at hi
  | zero =>
    simp at hi
    subst hi
    refine ⟨_, [.slice a n c], rfl, hF, (Array.getElem?_eq_some_iff.1 hb).1, fun j v hv => ?_, rfl, _, _, _, rfl⟩
    cases j with
    | succ j => simp at hv
    | zero =>
      simp at hv
      subst hv
      rw [Nat.zero_mul, Go.Addr.add_add, add0, blk_cells hb]
      rfl
theorem balV_one (w : World) (F : Nat → Prop) (c : List Value) (x : Value) (h : tBalV.R w F c x) : ∀ u ∈ c, u.oneCell' = true := by
  obtain ⟨rfl, a, n, k, rfl⟩ := h
  simp [Value.oneCell']
theorem grow_next {vs cur : List Value} {L C : List (List (Int × Int))} {n q : Nat} {u : Value} (h : ∀ (i : Nat) (c : List (Int × Int)), C[i]? = some c → (i < n → c = marks i 0 c.length ∧ c.length ≤ 100072) ∧ (n ≤ i → L[i]? = some c ∧ cur[i]? = vs[i]?)) (hn : n < C.length) (hq : q ≤ 100072) :
    ∀ (i : Nat) (c : List (Int × Int)), (C.set n (marks n 0 q))[i]? = some c → (i < n + 1 → c = marks i 0 c.length ∧ c.length ≤ 100072) ∧ (n + 1 ≤ i → L[i]? = some c ∧ (cur.set n u)[i]? = vs[i]?) := by
  intro i c hc
  by_cases hi : n = i
  · subst hi
    rw [List.getElem?_set_self hn] at hc
    injection hc with hc
    subst hc
    rw [marks_len]
    exact ⟨fun _ => ⟨rfl, hq⟩, fun h2 => by omega⟩
  · rw [List.getElem?_set_ne hi] at hc
    have := h i c hc
    exact ⟨fun h2 => this.1 (by omega), fun h2 => by rw [List.getElem?_set_ne hi]; exact this.2 (by omega)⟩

set_option maxHeartbeats 16000000 in
set_option maxRecDepth 100000 in
theorem growBal_far {w : World} {b base : Nat} {cs : Array Value} {a6 : Option Addr} {c6 : Nat} {vs : List Value} {L : List (List (Int × Int))} (hb : w.heap[b]? = some (.cells cs 48 (0, 0)))
    (h6 : cs[6]? = some (.slice a6 vs.length c6)) (ho : OwnL tBalV w base (.slice a6 vs.length c6) vs) (hl : Lots tBal w base vs L) (hbb : ¬ InV vs b) (hap : ∀ v ∈ vs, ApartV (.slice a6 vs.length c6) v) (hn : vs.length ≤ 1000)
    (hL : ∀ (i : Nat) (l : List (Int × Int)), L[i]? = some l → l = marks i 0 l.length ∧ l.length ≤ 100000) (hbs : base ≤ w.heap.size) :
    Calls Tryz.prog 73 #[.pointer (some ⟨b, 0, none⟩)] w fun e w' => ∃ vo cur C, e = .returned vo ∧ OwnL tBalV w' w.heap.size vo cur ∧ Reads w' cur C ∧ Reads w' vs L ∧ But (InV vs) w w' ∧ cur.length = vs.length ∧ (∀ (i : Nat) (l : List (Int × Int)), C[i]? = some l → (l = marks i 0 l.length ∧ l.length ≤ 100072)) ∧ ∀ k, InV cur k → InV vs k ∨ w.heap.size ≤ k := by
  obtain ⟨i0, hi, hz0, hz1, hz2⟩ := info_parts infoBal
  obtain ⟨j0, hj, hy0, hy1, hy2⟩ := info_parts infoBalV
  have HSW : Hid (∀ W, But (InV vs) w W → Sl tBalV W (fun _ => True) a6 vs) := Lib.hid (fun W hW => (ho.but balV_Free hW (fun k hk hf => by
    obtain ⟨v, hv, hvk⟩ := hf
    rcases hap v hv with h | h
    · rw [h] at hk; cases hk
    · exact h (by rw [hk, hvk]))).sl)
  have HG0 := Lib.hid (Grow.start hl)
  have HL := Lib.hid hL
  have hbl := blk_lt hb
  have HC6 : Hid (∀ W, But (InV vs) w W → W.cell? ⟨b, 6, none⟩ = some (.slice a6 vs.length c6)) := Lib.hid (fun W hW => by rw [blk_cells ((hW.block b hbl hbb).trans hb)]; exact h6)
  clear ho hl hL hb h6 hap
  go_enter Tryz.func73, Tryz.ntmps73
  go_wp2_with fail
  go_loopw [3, 4] (fun vo vi wr => ∃ (n : Nat) (vx : Value) (cur : List Value) (C : List (List (Int × Int))), vx = vo ∧ n ≤ vs.length ∧ vi = .int .i64 n ∧ Hid (Grow w wr base vs cur L C) ∧ Hid (OwnL tBalV wr w.heap.size vx (cur.take n)) ∧ Hid (∀ x ∈ cur, ApartV vx x) ∧ But (InV vs) w wr ∧ Hid (∀ (i : Nat) (c : List (Int × Int)), C[i]? = some c → (i < n → c = marks i 0 c.length ∧ c.length ≤ 100072) ∧ (n ≤ i → L[i]? = some c ∧ cur[i]? = vs[i]?))) (fun _ vi _ => vs.length - (intOf vi).toNat)
  case atStart => exact ⟨0, _, vs, L, rfl, Nat.zero_le _, rfl, HG0, Lib.hid (OwnL.nil _ _), Lib.hid (fun x _ => .inl rfl), But.refl _ _, Lib.hid (fun i c h => ⟨fun h0 => by omega, fun _ => ⟨h, rfl⟩⟩)⟩
  case round =>
    obtain ⟨n, vo, cur, C, rfl, hnn, rfl, HG, HO, HAP, hbt, HCM⟩ := hrel
    have HB := Lib.hid hbt
    have hbl' : b < wr.heap.size := Nat.lt_of_lt_of_le hbl hbt.size
    have hz6 := HC6.out wr hbt
    clear hbt
    by_cases hlt : n < vs.length
    · have hcl := HG.out.same
      have hcC := HG.out.lots.len
      have hlt2 : n < C.length := by omega
      obtain ⟨l, hl⟩ : ∃ l, C[n]? = some l := ⟨_, List.getElem?_eq_getElem hlt2⟩
      obtain ⟨hlL, hcv⟩ := (HCM.out n l hl).2 (Nat.le_refl _)
      obtain ⟨hlm, hll⟩ := HL.out n l hlL
      obtain ⟨v, hv⟩ : ∃ v, vs[n]? = some v := ⟨_, List.getElem?_eq_getElem hlt⟩
      have hvn : vs[n] = v := by rw [List.getElem?_eq_getElem hlt] at hv; injection hv
      obtain ⟨ad, rfl, hadl, hc0⟩ := val_at (HSW.out wr HB.out) n hlt
      rw [hvn] at hc0
      have HV0 := Lib.hid (hcv.trans hv)
      have HS0 : Hid (GS w wr base vs cur L C n vo v l.length) := Lib.hid ⟨by rw [set_self (hcv.trans hv), ← hlm, set_self hl]; exact HG.out, HO.out, by rw [set_self (hcv.trans hv)]; exact HAP.out, HB.out⟩
      have hncur : n < cur.length := by omega
      obtain ⟨va, vc, hve, _⟩ := (HS0.out.own hncur).slice
      rw [marks_len] at hve
      subst hve
      have HCL := Lib.hid hcl
      clear hl hlL hcv hlm hv hvn hcl hcC
      go_wp2_with fail
      go_loopw [5, 6] (fun vu vm wk => ∃ (m q : Nat) (vx : Value), vx = vu ∧ q = l.length + m ∧ m ≤ 12 ∧ vm = .int .i64 m ∧ Hid (GS w wk base vs cur L C n vo vx q)) (fun _ vm _ => 12 - (intOf vm).toNat)
      case atStart => exact ⟨0, _, _, rfl, rfl, Nat.zero_le _, rfl, HS0⟩
      case round =>
        obtain ⟨m, q, u, rfl, hq, hm, rfl, HS⟩ := hrel
        obtain ⟨ua, uc, hue, hu1, hu2, _⟩ := (HS.out.own hncur).slice
        rw [marks_len] at hue hu1
        subst hue
        by_cases hm12 : m < 12
        · have HMK : Hid (Calls Tryz.prog 134 #[.int .i64 (n : Int), .int .i64 (q : Int), .int .i64 1] wr fun e w' => ∃ v, e = .returned v ∧ OwnL tBal w' wr.heap.size v (marks n q 1) ∧ Below wr.heap.size wr w') := Lib.hid (markBal_any n q 1 (by omega) (by omega) (by omega) wr)
          have hm12' : (m : Int) < 12 := by omega
          have HQ := Lib.hid hq
          clear hq
          go_wp2_with fail
          refine HMK.out.mono ?_
          rintro en w2 ⟨v2, rfl, ho2, hb2⟩
          obtain ⟨g2, c2, rfl, hg2, hms⟩ := mark1 ho2 (by omega)
          have HS2 : Hid (GS w w2 base vs cur L C n vo (.slice ua q uc) q) := Lib.hid (HS.out.call hb2)
          have HO2 := Lib.hid (HS2.out.own hncur)
          have HSL := Lib.hid (sl_far hms (HS.out.own hncur) hg2)
          have h63 : (marks n 0 q).length + (marks n q 1).length ≤ maxLen := by rw [marks_len, marks_len]; unfold maxLen; have := HQ.out; omega
          have hby : ((marks n 0 q).length + (marks n q 1).length) * 16 ≤ 140737488355328 := by rw [marks_len, marks_len]; have := HQ.out; omega
          have HBS : Hid (base ≤ w2.heap.size) := Lib.hid (by have := HS2.out.but.size; omega)
          clear ho2 hb2 hms hg2 HMK
          go_wp2_with (at_builtin; refine wp_appK (T := tBal) rfl _ _ 32 rfl i0 (.agg #[.int .i64 0, .int .i64 0]) 16 Tryz.underlying32 hi hz0 hz1 hz2 rfl (by decide) bal_one base (.slice ua q uc) (marks n 0 q) rfl HO2.out ⟨g2, 0, none⟩ c2 (marks n q 1) rfl HSL.out h63 hby HBS.out ?_; intro v3 w3 hown hg hk; have HS3 : Hid (GS w w3 base vs cur L C n vo v3 (q + 1)) := Lib.hid (HS2.out.step hncur hown hg hk); clear hown hg hk)
          go_roundw
          case rel => exact ⟨m + 1, q + 1, _, rfl, by have := HQ.out; omega, by omega, by go_num, HS3⟩
          case measure => simp [intOf]; omega
        · obtain rfl : m = 12 := by omega
          have HMK : Hid (Calls Tryz.prog 134 #[.int .i64 (n : Int), .int .i64 (q : Int), .int .i64 60] wr fun e w' => ∃ v, e = .returned v ∧ OwnL tBal w' wr.heap.size v (marks n q 60) ∧ Below wr.heap.size wr w') := Lib.hid (markBal_any n q 60 (by omega) (by omega) (by omega) wr)
          have HQ := Lib.hid hq
          clear hq
          go_wp2_with fail
          refine HMK.out.mono ?_
          rintro en w2 ⟨v2, rfl, ho2, hb2⟩
          obtain ⟨g2, c2, rfl, hg2, hms⟩ := mark1 ho2 (by omega)
          have HS2 : Hid (GS w w2 base vs cur L C n vo (.slice ua q uc) q) := Lib.hid (HS.out.call hb2)
          have HO2 := Lib.hid (HS2.out.own hncur)
          have HSL := Lib.hid (sl_far hms (HS.out.own hncur) hg2)
          have h63 : (marks n 0 q).length + (marks n q 60).length ≤ maxLen := by rw [marks_len, marks_len]; unfold maxLen; have := HQ.out; omega
          have hby : ((marks n 0 q).length + (marks n q 60).length) * 16 ≤ 140737488355328 := by rw [marks_len, marks_len]; have := HQ.out; omega
          have HBS : Hid (base ≤ w2.heap.size) := Lib.hid (by have := HS2.out.but.size; omega)
          clear ho2 hb2 hms hg2 HMK
          have hnb : (cur.take n).length = n := by have := HCL.out; rw [List.length_take]; omega
          have HTN := Lib.hid hnb
          clear hnb
          go_wp2_with (first
            | (at_builtin; refine wp_appK (T := tBal) rfl _ _ 32 rfl i0 (.agg #[.int .i64 0, .int .i64 0]) 16 Tryz.underlying32 hi hz0 hz1 hz2 rfl (by decide) bal_one base (.slice ua q uc) (marks n 0 q) rfl HO2.out ⟨g2, 0, none⟩ c2 (marks n q 60) rfl HSL.out h63 hby HBS.out ?_; intro v3 w3 hown hg hk; have hS3 : GS w w3 base vs cur L C n vo v3 (q + 60) := HS2.out.step hncur hown hg hk; obtain ⟨xa, xc, hxe, _⟩ := (hS3.own hncur).slice; rw [marks_len] at hxe; subst hxe; have HS3 := Lib.hid hS3; have HOA : Hid (OwnL tBalV (w3.alloc (.cells #[.slice xa (q + 60) xc] 32)) w.heap.size vo (cur.take n)) := Lib.hid (hS3.out.alloc _); have HSV : Hid (Sl tBalV (w3.alloc (.cells #[.slice xa (q + 60) xc] 32)) (fun k => some k ≠ vo.ownBlock ∧ k < (w3.alloc (.cells #[.slice xa (q + 60) xc] 32)).heap.size) (some ⟨w3.heap.size, 0, none⟩) [.slice xa (q + 60) xc]) := Lib.hid (sl_oneV (blk_new w3 _) ⟨fun e => by have := (hS3.out.lt _ e.symm).2; omega, by simp⟩); clear hown hg hk hS3)
            | (at_builtin; refine wp_app (T := tBalV) rfl _ _ 40 rfl j0 (.slice none 0 0) 24 Tryz.underlying40 hj hy0 hy1 hy2 rfl (by decide) balV_one w.heap.size vo (cur.take n) rfl HOA.out ⟨w3.heap.size, 0, none⟩ 1 [.slice xa (q + 60) xc] rfl HSV.out (by rw [HTN.out]; unfold maxLen; simp; omega) (by rw [HTN.out]; simp; omega) (by have := HS3.out.but.size; simp; omega) ?_; intro v4 w4 hown hg _ hat; have HN4 := Lib.hid ((HS3.out.call ((Below.refl _ _).alloc (Nat.le_refl _) (.cells #[.slice xa (q + 60) xc] 32))).push hncur hown hg hat); clear hown hg hat))
          go_roundw
          case rel => exact ⟨n + 1, _, _, _, rfl, by omega, by go_num, Lib.hid HN4.out.1, Lib.hid HN4.out.2.1, Lib.hid HN4.out.2.2.1, HN4.out.2.2.2, Lib.hid (grow_next HCM.out hlt2 (by have := HQ.out; omega))⟩
          case measure => simp [intOf]; omega
    · obtain rfl : n = vs.length := by omega
      go_wp2_with fail
      go_ret
      have hcl := HG.out.same
      refine ⟨_, cur, C, rfl, by have := HO.out; rwa [List.take_of_length_le (by omega)] at this, HG.out.lots.reads, HG.out.reads, HB.out, hcl, fun i l hl => ((HCM.out i l hl).1 ?_), fun k ⟨u, hu, hk⟩ => ?_⟩
      · have := (List.getElem?_eq_some_iff.1 hl).1
        have := HG.out.lots.len
        omega
      · obtain ⟨i, hi⟩ := List.mem_iff_getElem?.1 hu
        have hil := (List.getElem?_eq_some_iff.1 hi).1
        rcases HG.out.row i vs[i] u (List.getElem?_eq_getElem (by omega)) hi with h | h
        · exact .inl ⟨vs[i], List.getElem_mem _, by rw [← h, hk]⟩
        · exact .inr (h k hk)
theorem growBal_any {w : World} {b base : Nat} {cs : Array Value} {a6 : Option Addr} {c6 : Nat} {vs : List Value} {L : List (List (Int × Int))} (hb : w.heap[b]? = some (.cells cs 48 (0, 0)))
    (h6 : cs[6]? = some (.slice a6 vs.length c6)) (ho : OwnL tBalV w base (.slice a6 vs.length c6) vs) (hl : Lots tBal w base vs L) (hbb : ¬ InV vs b) (hap : ∀ v ∈ vs, ApartV (.slice a6 vs.length c6) v) (hn : vs.length ≤ 1000)
    (hL : ∀ (i : Nat) (l : List (Int × Int)), L[i]? = some l → l = marks i 0 l.length ∧ l.length ≤ 100000) (hbs : base ≤ w.heap.size) :
    Calls Tryz.prog 73 #[.pointer (some ⟨b, 0, none⟩)] w fun e w' => ∃ vo cur C, e = .returned vo ∧ OwnL tBalV w' w.heap.size vo cur ∧ Reads w' cur C ∧ Reads w' vs L ∧ But (InV vs) w w' ∧ cur.length = vs.length ∧ ∀ (i : Nat) (l : List (Int × Int)), C[i]? = some l → l = marks i 0 l.length ∧ l.length ≤ 100072 := by
  refine (growBal_far hb h6 ho hl hbb hap hn hL hbs).mono ?_
  rintro e w' ⟨vo, cur, C, he, h1, h2, h3, h4, h5, h6, _⟩
  exact ⟨vo, cur, C, he, h1, h2, h3, h4, h5, h6⟩
end Go.Proofs.YtfnmlpnncjhnmaaGreat


/- variorumbook: the Book with balances alone; one more list is kept. -/
set_option linter.unusedVariables false
set_option linter.unusedSimpArgs false
namespace Go.Proofs.YtfnmlpnncjhnmaaGreat
open Go.RowKit Go.Maps Go.Deep

/-- the Book's cells: balances alone -/
def bookB (s t : Value) : Array Value := #[.slice none 0 0, .slice none 0 0, .slice none 0 0, .slice none 0 0, .slice none 0 0, .slice none 0 0, s, t, .slice none 0 0, .slice none 0 0, .slice none 0 0, .slice none 0 0, .slice none 0 0, .slice none 0 0, .slice none 0 0, .slice none 0 0, .slice none 0 0, .slice none 0 0, .slice none 0 0, .slice none 0 0]
/-- a Book that keeps the lists L of balances: vs, and the copies us -/
structure KeptB (w : World) (b base : Nat) (s t : Value) (vs us : List Value) (L : List (List (Int × Int))) : Prop where
  cell : w.heap[b]? = some (.cells (bookB s t) 48 (0, 0))
  bb : b < base
  os : OwnL tBalV w base s vs
  ot : OwnL tBalV w base t us
  lv : Lots tBal w base vs L
  lu : Lots tBal w base us L
  st : ApartV s t
  sv : ∀ v ∈ vs, ApartV s v
  su : ∀ v ∈ us, ApartV s v
  tv : ∀ v ∈ vs, ApartV t v
  tu : ∀ v ∈ us, ApartV t v
  vu : ∀ v ∈ vs, ∀ u ∈ us, ApartV v u
/-- of what was there only block b and the row of s may have turned -/
def Fr (w w' : World) (b : Nat) (s : Value) : Prop := w.heap.size ≤ w'.heap.size ∧ ∀ k, k < w.heap.size → k ≠ b → some k ≠ s.ownBlock → w'.heap[k]? = w.heap[k]?
section
variable {P : Program} {e : TypeId} {α : Type} {T : Ty P e α} {w w' : World} {b base : Nat} {y s : Value} {xs : List α}
theorem OwnL.fr (hfr : Free T) (ho : OwnL T w base y xs) (hb : b < base) (h : Fr w w' b s) (hap : ApartV s y) : OwnL T w' base y xs := by
  have hlt := ho.lt
  refine ho.keepF hfr (fun k hk => h.2 k (hlt k hk).2 (by have := (hlt k hk).1; omega) (fun e2 => ?_))
  rcases hap with h1 | h1
  · rw [h1] at e2; cases e2
  · exact h1 (by rw [hk, e2])
theorem Lots.fr {vs : List Value} {L : List (List α)} (hfr : Free T) (ho : Lots T w base vs L) (hb : b < base) (h : Fr w w' b s) (hap : ∀ v ∈ vs, ApartV s v) : Lots T w' base vs L :=
  ⟨ho.len, fun i v l hv hl => (ho.own i v l hv hl).fr hfr hb h (hap v (List.mem_of_getElem? hv)), ho.apart⟩
end
/-- new rows are apart from all that was there -/
theorem apart_new {u v : Value} {n : Nat} (hu : ∀ k, u.ownBlock = some k → n ≤ k) (hv : ∀ k, v.ownBlock = some k → k < n) : ApartV u v := by
  cases h : u.ownBlock with
  | none => exact .inl h
  | some k => exact .inr (fun e => by
    rw [h] at e
    have h1 := hu k h
    have h2 := hv k e.symm
    omega)
theorem apart_turn {u u' v : Value} {n : Nat} (h : ApartV u v) (hat : u'.ownBlock = u.ownBlock ∨ ∀ k, u'.ownBlock = some k → n ≤ k) (hv : ∀ k, v.ownBlock = some k → k < n) : ApartV u' v := by
  rcases hat with e | e
  · unfold ApartV
    rw [e]
    exact h
  · exact apart_new e hv
theorem KeptB.add {w w4 w6 : World} {b base : Nat} {s t s' t' x x' : Value} {vs us : List Value} {L : List (List (Int × Int))} {l : List (Int × Int)} (h : KeptB w b base s t vs us L) (hx : OwnL tBal w base x l)
    (xs : ApartV s x) (xt : ApartV t x) (xv : ∀ v ∈ vs, ApartV v x) (xu : ∀ v ∈ us, ApartV v x)
    (F1 : Fr w w4 b s) (os : OwnL tBalV w4 base s' (vs ++ [x])) (as_ : s'.ownBlock = s.ownBlock ∨ ∀ k, s'.ownBlock = some k → w.heap.size ≤ k)
    (F2 : Fr w4 w6 b t) (ox : OwnL tBal w6 base x' l) (nx : ∀ k, x'.ownBlock = some k → w4.heap.size ≤ k) (ot : OwnL tBalV w6 base t' (us ++ [x'])) (at_ : t'.ownBlock = t.ownBlock ∨ ∀ k, t'.ownBlock = some k → w4.heap.size ≤ k) (tx : ApartV t' x')
    (cell : w6.heap[b]? = some (.cells (bookB s' t') 48 (0, 0))) : KeptB w6 b base s' t' (vs ++ [x]) (us ++ [x']) (L ++ [l]) := by
  have l4 : ∀ (v : Value), (∀ k, v.ownBlock = some k → k < w.heap.size) → ∀ k, v.ownBlock = some k → k < w4.heap.size := fun v hv k hk => Nat.lt_of_lt_of_le (hv k hk) F1.1
  have ltv : ∀ v ∈ vs, ∀ k, v.ownBlock = some k → k < w.heap.size := fun v hv k hk => (h.lv.lt hv k hk).2
  have ltu : ∀ v ∈ us, ∀ k, v.ownBlock = some k → k < w.heap.size := fun v hv k hk => (h.lu.lt hv k hk).2
  have ltx : ∀ k, x.ownBlock = some k → k < w.heap.size := fun k hk => (hx.lt k hk).2
  have ltt : ∀ k, t.ownBlock = some k → k < w.heap.size := fun k hk => (h.ot.lt k hk).2
  have lts' : ∀ k, s'.ownBlock = some k → k < w4.heap.size := fun k hk => (os.lt k hk).2
  have s't : ApartV s' t := apart_turn h.st as_ ltt
  have t's' : ApartV t' s' := apart_turn s't.symm at_ lts'
  have lv4 : Lots tBal w4 base (vs ++ [x]) (L ++ [l]) := (h.lv.fr bal_Free h.bb F1 h.sv).snoc (hx.fr bal_Free h.bb F1 xs) xv
  have lu4 : Lots tBal w4 base us L := h.lu.fr bal_Free h.bb F1 h.su
  have tvx : ∀ v ∈ vs ++ [x], ApartV t v := fun v hv => by
    rcases List.mem_append.1 hv with hv | hv
    · exact h.tv v hv
    · simp at hv; subst hv; exact xt
  have ltvx : ∀ v ∈ vs ++ [x], ∀ k, v.ownBlock = some k → k < w.heap.size := fun v hv => by
    rcases List.mem_append.1 hv with hv | hv
    · exact ltv v hv
    · simp at hv; subst hv; exact ltx
  refine ⟨cell, h.bb, os.fr balV_Free h.bb F2 s't.symm, ot, lv4.fr bal_Free h.bb F2 tvx, (lu4.fr bal_Free h.bb F2 h.tu).snoc ox (fun u hu => (apart_new nx (l4 u (ltu u hu))).symm), t's'.symm, fun v hv => ?_, fun v hv => ?_, fun v hv => apart_turn (tvx v hv) at_ (l4 v (ltvx v hv)), fun v hv => ?_, fun v hv u hu => ?_⟩
  · rcases List.mem_append.1 hv with hv | hv
    · exact apart_turn (h.sv v hv) as_ (ltv v hv)
    · simp at hv; subst hv; exact apart_turn xs as_ ltx
  · rcases List.mem_append.1 hv with hv | hv
    · exact apart_turn (h.su v hv) as_ (ltu v hv)
    · simp at hv; subst hv; exact (apart_new nx lts').symm
  · rcases List.mem_append.1 hv with hv | hv
    · exact apart_turn (h.tu v hv) at_ (l4 v (ltu v hv))
    · simp at hv; subst hv; exact tx
  · rcases List.mem_append.1 hu with hu | hu
    · rcases List.mem_append.1 hv with hv | hv
      · exact h.vu v hv u hu
      · simp at hv; subst hv; exact (xu u hu).symm
    · simp at hu; subst hu
      exact (apart_new nx (l4 v (ltvx v hv))).symm
/-- what keeping a list turned: block b, the rows of s and t; the new ones are new, or those -/
structure KFr (w w' : World) (b : Nat) (s t s' t' x' : Value) : Prop where
  size : w.heap.size ≤ w'.heap.size
  keep : ∀ k, k < w.heap.size → k ≠ b → some k ≠ s.ownBlock → some k ≠ t.ownBlock → w'.heap[k]? = w.heap[k]?
  sn : s'.ownBlock = s.ownBlock ∨ ∀ k, s'.ownBlock = some k → w.heap.size ≤ k
  tn : t'.ownBlock = t.ownBlock ∨ ∀ k, t'.ownBlock = some k → w.heap.size ≤ k
  xn : ∀ k, x'.ownBlock = some k → w.heap.size ≤ k
section
variable {P : Program} {e : TypeId} {α : Type} {T : Ty P e α} {w w' : World} {b base : Nat} {s t s' t' x' y : Value} {xs : List α}
theorem KFr.own (hfr : Free T) (hk : KFr w w' b s t s' t' x') (ho : OwnL T w base y xs) (hb : b < base) (hs : ApartV s y) (ht : ApartV t y) : OwnL T w' base y xs := by
  have hlt := ho.lt
  refine ho.keepF hfr (fun k h => hk.keep k (hlt k h).2 (by have := (hlt k h).1; omega) (fun e2 => ?_) (fun e2 => ?_))
  · rcases hs with h1 | h1
    · rw [h1] at e2; cases e2
    · exact h1 (by rw [h, e2])
  · rcases ht with h1 | h1
    · rw [h1] at e2; cases e2
    · exact h1 (by rw [h, e2])
theorem KFr.far (hk : KFr w w' b s t s' t' x') (hy : ∀ k, y.ownBlock = some k → k < w.heap.size) (hs : ApartV s y) (ht : ApartV t y) : ApartV s' y ∧ ApartV t' y ∧ ApartV x' y :=
  ⟨apart_turn hs hk.sn hy, apart_turn ht hk.tn hy, apart_new hk.xn hy⟩
end
/-- a value that may be kept: apart from all that is -/
def Out (s t : Value) (vs us : List Value) (x : Value) : Prop := ApartV s x ∧ ApartV t x ∧ (∀ v ∈ vs, ApartV v x) ∧ ∀ v ∈ us, ApartV v x
theorem KeptB.fresh {w : World} {b base : Nat} {s t x : Value} {vs us : List Value} {L : List (List (Int × Int))} (h : KeptB w b base s t vs us L) (hx : ∀ k, x.ownBlock = some k → w.heap.size ≤ k) : Out s t vs us x :=
  ⟨(apart_new hx (fun k hk => (h.os.lt k hk).2)).symm, (apart_new hx (fun k hk => (h.ot.lt k hk).2)).symm, fun v hv => (apart_new hx (fun k hk => (h.lv.lt hv k hk).2)).symm, fun v hv => (apart_new hx (fun k hk => (h.lu.lt hv k hk).2)).symm⟩
theorem Out.next {w w' : World} {b : Nat} {s t s' t' x x' y : Value} {vs us : List Value} (h : Out s t vs us y) (hk : KFr w w' b s t s' t' x') (hy : ∀ k, y.ownBlock = some k → k < w.heap.size) (hxy : ApartV x y) : Out s' t' (vs ++ [x]) (us ++ [x']) y := by
  obtain ⟨h1, h2, h3⟩ := hk.far hy h.1 h.2.1
  refine ⟨h1, h2, fun v hv => ?_, fun v hv => ?_⟩
  · rcases List.mem_append.1 hv with hv | hv
    · exact h.2.2.1 v hv
    · simp at hv; subst hv; exact hxy
  · rcases List.mem_append.1 hv with hv | hv
    · exact h.2.2.2 v hv
    · simp at hv; subst hv; exact h3
theorem apart_none (v : Value) : ApartV v (.slice none 0 0) := ApartV.symm (.inl rfl)
end Go.Proofs.YtfnmlpnncjhnmaaGreat
