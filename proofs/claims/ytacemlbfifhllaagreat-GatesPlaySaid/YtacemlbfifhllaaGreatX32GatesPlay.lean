/- variorumbook: growBalances, walked. -/
import Derived.Test.YtacemlbfifhllaaGreatX30GatesPlay
set_option linter.unusedVariables false
set_option linter.unusedSimpArgs false
namespace Go.Proofs.YtacemlbfifhllaaGreat
open Go.RowKit Go.Maps Go.Deep

theorem mark1 {w w2 : World} {v : Value} {n q m : Nat} (h : OwnL tBal w2 w.heap.size v (marks n q m)) (hm : 0 < m) : ∃ g c, v = .slice (some ⟨g, 0, none⟩) (marks n q m).length c ∧ w.heap.size ≤ g ∧ Sl tBal w2 (fun _ => True) (some ⟨g, 0, none⟩) (marks n q m) := by
  have hl := marks_len n q m
  have hlt := h.lt
  rcases h.form with ⟨_, h0⟩ | ⟨g, c, rfl, _⟩
  · rw [h0] at hl; simp at hl; omega
  · exact ⟨g, c, rfl, (hlt g rfl).1, h.sl⟩
theorem sl_far {wk w2 : World} {u : Value} {xs ys : List (Int × Int)} {base g : Nat} (hs : Sl tBal w2 (fun _ => True) (some ⟨g, 0, none⟩) ys) (ho : OwnL tBal wk base u xs) (hg : wk.heap.size ≤ g) : Sl tBal w2 (fun k => some k ≠ u.ownBlock ∧ k < w2.heap.size) (some ⟨g, 0, none⟩) ys := by
  intro i x hx
  obtain ⟨ad, ces, ha, _, hlt, hc, hr⟩ := hs i x hx
  injection ha with ha
  subst ha
  refine ⟨_, ces, rfl, ⟨fun e => ?_, hlt⟩, hlt, hc, bal_free _ _ _ _ _ hr⟩
  have := (ho.lt _ e.symm).2
  have h2 : g < wk.heap.size := this
  omega

theorem sl_oneV {w : World} {F : Nat → Prop} {b : Nat} {a : Option Addr} {n c : Nat} (hb : w.heap[b]? = some (.cells #[.slice a n c] 106 (0, 0))) (hF : F b) : Sl tBalV w F (some ⟨b, 0, none⟩) [.slice a n c] := by
  intro i y hi
  cases i with
  | succ i => simp at hi
  | zero =>
    simp at hi
    subst hi
    refine ⟨_, [.slice a n c], rfl, hF, (Array.getElem?_eq_some_iff.1 hb).1, fun j v hv => ?_, rfl, _, _, _, rfl⟩
    cases j with
    | succ j => simp at hv
    | zero =>
      simp at hv
      subst hv
      rw [Nat.zero_mul, Go.Addr.add_add, add0, blk_cells hb]
      rfl
theorem balV_one (w : World) (F : Nat → Prop) (c : List Value) (x : Value) (h : tBalV.R w F c x) : ∀ u ∈ c, u.oneCell' = true := by
  obtain ⟨rfl, a, n, k, rfl⟩ := h
  simp [Value.oneCell']
theorem grow_next {vs cur : List Value} {L C : List (List (Int × Int))} {n q : Nat} {u : Value} (h : ∀ (i : Nat) (c : List (Int × Int)), C[i]? = some c → (i < n → c = marks i 0 c.length ∧ c.length ≤ 100072) ∧ (n ≤ i → L[i]? = some c ∧ cur[i]? = vs[i]?)) (hn : n < C.length) (hq : q ≤ 100072) :
    ∀ (i : Nat) (c : List (Int × Int)), (C.set n (marks n 0 q))[i]? = some c → (i < n + 1 → c = marks i 0 c.length ∧ c.length ≤ 100072) ∧ (n + 1 ≤ i → L[i]? = some c ∧ (cur.set n u)[i]? = vs[i]?) := by
  intro i c hc
  by_cases hi : n = i
  · subst hi
    rw [List.getElem?_set_self hn] at hc
    injection hc with hc
    subst hc
    rw [marks_len]
    exact ⟨fun _ => ⟨rfl, hq⟩, fun h2 => by omega⟩
  · rw [List.getElem?_set_ne hi] at hc
    have := h i c hc
    exact ⟨fun h2 => this.1 (by omega), fun h2 => by rw [List.getElem?_set_ne hi]; exact this.2 (by omega)⟩

set_option maxHeartbeats 16000000 in
set_option maxRecDepth 100000 in
theorem growBal_far {w : World} {b base : Nat} {cs : Array Value} {a6 : Option Addr} {c6 : Nat} {vs : List Value} {L : List (List (Int × Int))} (hb : w.heap[b]? = some (.cells cs 41 (0, 0)))
    (h6 : cs[6]? = some (.slice a6 vs.length c6)) (ho : OwnL tBalV w base (.slice a6 vs.length c6) vs) (hl : Lots tBal w base vs L) (hbb : ¬ InV vs b) (hap : ∀ v ∈ vs, ApartV (.slice a6 vs.length c6) v) (hn : vs.length ≤ 1000)
    (hL : ∀ (i : Nat) (l : List (Int × Int)), L[i]? = some l → l = marks i 0 l.length ∧ l.length ≤ 100000) (hbs : base ≤ w.heap.size) :
    Calls Tryz.prog 48 #[.pointer (some ⟨b, 0, none⟩)] w fun e w' => ∃ vo cur C, e = .returned vo ∧ OwnL tBalV w' w.heap.size vo cur ∧ Reads w' cur C ∧ Reads w' vs L ∧ But (InV vs) w w' ∧ cur.length = vs.length ∧ (∀ (i : Nat) (l : List (Int × Int)), C[i]? = some l → (l = marks i 0 l.length ∧ l.length ≤ 100072)) ∧ ∀ k, InV cur k → InV vs k ∨ w.heap.size ≤ k := by
  obtain ⟨i0, hi, hz0, hz1, hz2⟩ := info_parts infoBal
  obtain ⟨j0, hj, hy0, hy1, hy2⟩ := info_parts infoBalV
  have HSW : Hid (∀ W, But (InV vs) w W → Sl tBalV W (fun _ => True) a6 vs) := Lib.hid (fun W hW => (ho.but balV_Free hW (fun k hk hf => by
    obtain ⟨v, hv, hvk⟩ := hf
    rcases hap v hv with h | h
    · rw [h] at hk; cases hk
    · exact h (by rw [hk, hvk]))).sl)
  have HG0 := Lib.hid (Grow.start hl)
  have HL := Lib.hid hL
  have hbl := blk_lt hb
  have HC6 : Hid (∀ W, But (InV vs) w W → W.cell? ⟨b, 6, none⟩ = some (.slice a6 vs.length c6)) := Lib.hid (fun W hW => by rw [blk_cells ((hW.block b hbl hbb).trans hb)]; exact h6)
  clear ho hl hL hb h6 hap
  go_enter Tryz.func48, Tryz.ntmps48
  go_wp2_with fail
  go_loopw [3, 4] (fun vo vi wr => ∃ (n : Nat) (vx : Value) (cur : List Value) (C : List (List (Int × Int))), vx = vo ∧ n ≤ vs.length ∧ vi = .int .i64 n ∧ Hid (Grow w wr base vs cur L C) ∧ Hid (OwnL tBalV wr w.heap.size vx (cur.take n)) ∧ Hid (∀ x ∈ cur, ApartV vx x) ∧ But (InV vs) w wr ∧ Hid (∀ (i : Nat) (c : List (Int × Int)), C[i]? = some c → (i < n → c = marks i 0 c.length ∧ c.length ≤ 100072) ∧ (n ≤ i → L[i]? = some c ∧ cur[i]? = vs[i]?))) (fun _ vi _ => vs.length - (Go.RowKit.intOf vi).toNat)
  case atStart => exact ⟨0, _, vs, L, rfl, Nat.zero_le _, rfl, HG0, Lib.hid (OwnL.nil _ _), Lib.hid (fun x _ => .inl rfl), But.refl _ _, Lib.hid (fun i c h => ⟨fun h0 => by omega, fun _ => ⟨h, rfl⟩⟩)⟩
  case round =>
    obtain ⟨n, vo, cur, C, rfl, hnn, rfl, HG, HO, HAP, hbt, HCM⟩ := hrel
    have HB := Lib.hid hbt
    have hbl' : b < wr.heap.size := Nat.lt_of_lt_of_le hbl hbt.size
    have hz6 := HC6.out wr hbt
    clear hbt
    by_cases hlt : n < vs.length
    · have hcl := HG.out.same
      have hcC := HG.out.lots.len
      have hlt2 : n < C.length := by omega
      obtain ⟨l, hl⟩ : ∃ l, C[n]? = some l := ⟨_, List.getElem?_eq_getElem hlt2⟩
      obtain ⟨hlL, hcv⟩ := (HCM.out n l hl).2 (Nat.le_refl _)
      obtain ⟨hlm, hll⟩ := HL.out n l hlL
      obtain ⟨v, hv⟩ : ∃ v, vs[n]? = some v := ⟨_, List.getElem?_eq_getElem hlt⟩
      have hvn : vs[n] = v := by rw [List.getElem?_eq_getElem hlt] at hv; injection hv
      obtain ⟨ad, rfl, hadl, hc0⟩ := val_at (HSW.out wr HB.out) n hlt
      rw [hvn] at hc0
      have HV0 := Lib.hid (hcv.trans hv)
      have HS0 : Hid (GS w wr base vs cur L C n vo v l.length) := Lib.hid ⟨by rw [set_self (hcv.trans hv), ← hlm, set_self hl]; exact HG.out, HO.out, by rw [set_self (hcv.trans hv)]; exact HAP.out, HB.out⟩
      have hncur : n < cur.length := by omega
      obtain ⟨va, vc, hve, _⟩ := (HS0.out.own hncur).slice
      rw [marks_len] at hve
      subst hve
      have HCL := Lib.hid hcl
      clear hl hlL hcv hlm hv hvn hcl hcC
      go_wp2_with fail
      go_loopw [5, 6] (fun vu vm wk => ∃ (m q : Nat) (vx : Value), vx = vu ∧ q = l.length + m ∧ m ≤ 12 ∧ vm = .int .i64 m ∧ Hid (GS w wk base vs cur L C n vo vx q)) (fun _ vm _ => 12 - (Go.RowKit.intOf vm).toNat)
      case atStart => exact ⟨0, _, _, rfl, rfl, Nat.zero_le _, rfl, HS0⟩
      case round =>
        obtain ⟨m, q, u, rfl, hq, hm, rfl, HS⟩ := hrel
        obtain ⟨ua, uc, hue, hu1, hu2, _⟩ := (HS.out.own hncur).slice
        rw [marks_len] at hue hu1
        subst hue
        by_cases hm12 : m < 12
        · have HMK : Hid (Calls Tryz.prog 85 #[.int .i64 (n : Int), .int .i64 (q : Int), .int .i64 1] wr fun e w' => ∃ v, e = .returned v ∧ OwnL tBal w' wr.heap.size v (marks n q 1) ∧ Below wr.heap.size wr w') := Lib.hid (markBal_any n q 1 (by omega) (by omega) (by omega) wr)
          have hm12' : (m : Int) < 12 := by omega
          have HQ := Lib.hid hq
          clear hq
          go_wp2_with fail
          refine HMK.out.mono ?_
          rintro en w2 ⟨v2, rfl, ho2, hb2⟩
          obtain ⟨g2, c2, rfl, hg2, hms⟩ := mark1 ho2 (by omega)
          have HS2 : Hid (GS w w2 base vs cur L C n vo (.slice ua q uc) q) := Lib.hid (HS.out.call hb2)
          have HO2 := Lib.hid (HS2.out.own hncur)
          have HSL := Lib.hid (sl_far hms (HS.out.own hncur) hg2)
          have h63 : (marks n 0 q).length + (marks n q 1).length ≤ maxLen := by rw [marks_len, marks_len]; unfold maxLen; have := HQ.out; omega
          have hby : ((marks n 0 q).length + (marks n q 1).length) * 16 ≤ 140737488355328 := by rw [marks_len, marks_len]; have := HQ.out; omega
          have HBS : Hid (base ≤ w2.heap.size) := Lib.hid (by have := HS2.out.but.size; omega)
          clear ho2 hb2 hms hg2 HMK
          go_wp2_with (at_builtin; refine wp_appK (T := tBal) rfl _ _ 106 rfl i0 (.agg #[.int .i64 0, .int .i64 0]) 16 Tryz.underlying106 hi hz0 hz1 hz2 rfl (by decide) bal_one base (.slice ua q uc) (marks n 0 q) rfl HO2.out ⟨g2, 0, none⟩ c2 (marks n q 1) rfl HSL.out h63 hby HBS.out ?_; intro v3 w3 hown hg hk; have HS3 : Hid (GS w w3 base vs cur L C n vo v3 (q + 1)) := Lib.hid (HS2.out.step hncur hown hg hk); clear hown hg hk)
          go_roundw
          case rel => exact ⟨m + 1, q + 1, _, rfl, by have := HQ.out; omega, by omega, by go_num, HS3⟩
          case measure => simp [Go.RowKit.intOf]; omega
        · obtain rfl : m = 12 := by omega
          have HMK : Hid (Calls Tryz.prog 85 #[.int .i64 (n : Int), .int .i64 (q : Int), .int .i64 60] wr fun e w' => ∃ v, e = .returned v ∧ OwnL tBal w' wr.heap.size v (marks n q 60) ∧ Below wr.heap.size wr w') := Lib.hid (markBal_any n q 60 (by omega) (by omega) (by omega) wr)
          have HQ := Lib.hid hq
          clear hq
          go_wp2_with fail
          refine HMK.out.mono ?_
          rintro en w2 ⟨v2, rfl, ho2, hb2⟩
          obtain ⟨g2, c2, rfl, hg2, hms⟩ := mark1 ho2 (by omega)
          have HS2 : Hid (GS w w2 base vs cur L C n vo (.slice ua q uc) q) := Lib.hid (HS.out.call hb2)
          have HO2 := Lib.hid (HS2.out.own hncur)
          have HSL := Lib.hid (sl_far hms (HS.out.own hncur) hg2)
          have h63 : (marks n 0 q).length + (marks n q 60).length ≤ maxLen := by rw [marks_len, marks_len]; unfold maxLen; have := HQ.out; omega
          have hby : ((marks n 0 q).length + (marks n q 60).length) * 16 ≤ 140737488355328 := by rw [marks_len, marks_len]; have := HQ.out; omega
          have HBS : Hid (base ≤ w2.heap.size) := Lib.hid (by have := HS2.out.but.size; omega)
          clear ho2 hb2 hms hg2 HMK
          have hnb : (cur.take n).length = n := by have := HCL.out; rw [List.length_take]; omega
          have HTN := Lib.hid hnb
          clear hnb
          go_wp2_with (first
            | (at_builtin; refine wp_appK (T := tBal) rfl _ _ 106 rfl i0 (.agg #[.int .i64 0, .int .i64 0]) 16 Tryz.underlying106 hi hz0 hz1 hz2 rfl (by decide) bal_one base (.slice ua q uc) (marks n 0 q) rfl HO2.out ⟨g2, 0, none⟩ c2 (marks n q 60) rfl HSL.out h63 hby HBS.out ?_; intro v3 w3 hown hg hk; have hS3 : GS w w3 base vs cur L C n vo v3 (q + 60) := HS2.out.step hncur hown hg hk; obtain ⟨xa, xc, hxe, _⟩ := (hS3.own hncur).slice; rw [marks_len] at hxe; subst hxe; have HS3 := Lib.hid hS3; have HOA : Hid (OwnL tBalV (w3.alloc (.cells #[.slice xa (q + 60) xc] 106)) w.heap.size vo (cur.take n)) := Lib.hid (hS3.out.alloc _); have HSV : Hid (Sl tBalV (w3.alloc (.cells #[.slice xa (q + 60) xc] 106)) (fun k => some k ≠ vo.ownBlock ∧ k < (w3.alloc (.cells #[.slice xa (q + 60) xc] 106)).heap.size) (some ⟨w3.heap.size, 0, none⟩) [.slice xa (q + 60) xc]) := Lib.hid (sl_oneV (blk_new w3 _) ⟨fun e => by have := (hS3.out.lt _ e.symm).2; omega, by simp⟩); clear hown hg hk hS3)
            | (at_builtin; refine wp_app (T := tBalV) rfl _ _ 33 rfl j0 (.slice none 0 0) 24 Tryz.underlying33 hj hy0 hy1 hy2 rfl (by decide) balV_one w.heap.size vo (cur.take n) rfl HOA.out ⟨w3.heap.size, 0, none⟩ 1 [.slice xa (q + 60) xc] rfl HSV.out (by rw [HTN.out]; unfold maxLen; simp; omega) (by rw [HTN.out]; simp; omega) (by have := HS3.out.but.size; simp; omega) ?_; intro v4 w4 hown hg _ hat; have HN4 := Lib.hid ((HS3.out.call ((Below.refl _ _).alloc (Nat.le_refl _) (.cells #[.slice xa (q + 60) xc] 106))).push hncur hown hg hat); clear hown hg hat))
          go_roundw
          case rel => exact ⟨n + 1, _, _, _, rfl, by omega, by go_num, Lib.hid HN4.out.1, Lib.hid HN4.out.2.1, Lib.hid HN4.out.2.2.1, HN4.out.2.2.2, Lib.hid (grow_next HCM.out hlt2 (by have := HQ.out; omega))⟩
          case measure => simp [Go.RowKit.intOf]; omega
    · obtain rfl : n = vs.length := by omega
      go_wp2_with fail
      go_ret
      have hcl := HG.out.same
      refine ⟨_, cur, C, rfl, by have := HO.out; rwa [List.take_of_length_le (by omega)] at this, HG.out.lots.reads, HG.out.reads, HB.out, hcl, fun i l hl => ((HCM.out i l hl).1 ?_), fun k ⟨u, hu, hk⟩ => ?_⟩
      · have := (List.getElem?_eq_some_iff.1 hl).1
        have := HG.out.lots.len
        omega
      · obtain ⟨i, hi⟩ := List.mem_iff_getElem?.1 hu
        have hil := (List.getElem?_eq_some_iff.1 hi).1
        rcases HG.out.row i vs[i] u (List.getElem?_eq_getElem (by omega)) hi with h | h
        · exact .inl ⟨vs[i], List.getElem_mem _, by rw [← h, hk]⟩
        · exact .inr (h k hk)
theorem growBal_any {w : World} {b base : Nat} {cs : Array Value} {a6 : Option Addr} {c6 : Nat} {vs : List Value} {L : List (List (Int × Int))} (hb : w.heap[b]? = some (.cells cs 41 (0, 0)))
    (h6 : cs[6]? = some (.slice a6 vs.length c6)) (ho : OwnL tBalV w base (.slice a6 vs.length c6) vs) (hl : Lots tBal w base vs L) (hbb : ¬ InV vs b) (hap : ∀ v ∈ vs, ApartV (.slice a6 vs.length c6) v) (hn : vs.length ≤ 1000)
    (hL : ∀ (i : Nat) (l : List (Int × Int)), L[i]? = some l → l = marks i 0 l.length ∧ l.length ≤ 100000) (hbs : base ≤ w.heap.size) :
    Calls Tryz.prog 48 #[.pointer (some ⟨b, 0, none⟩)] w fun e w' => ∃ vo cur C, e = .returned vo ∧ OwnL tBalV w' w.heap.size vo cur ∧ Reads w' cur C ∧ Reads w' vs L ∧ But (InV vs) w w' ∧ cur.length = vs.length ∧ ∀ (i : Nat) (l : List (Int × Int)), C[i]? = some l → l = marks i 0 l.length ∧ l.length ≤ 100072 := by
  refine (growBal_far hb h6 ho hl hbb hap hn hL hbs).mono ?_
  rintro e w' ⟨vo, cur, C, he, h1, h2, h3, h4, h5, h6, _⟩
  exact ⟨vo, cur, C, he, h1, h2, h3, h4, h5, h6⟩
end Go.Proofs.YtacemlbfifhllaaGreat
