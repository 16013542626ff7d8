/- variorumbook: growBalances. -/
import Derived.Test.YtgggpaacagbmcaaGreatX30GroupInner
set_option linter.unusedVariables false
set_option linter.unusedSimpArgs false
namespace Go.Proofs.YtgggpaacagbmcaaGreat
open Go.RowKit Go.Maps Go.Deep

/-- while lists grow: vs as they were (read), cur as they are, each in the old row or in a new one; cur apart from each other and from the other ones of vs -/
structure Grow (w0 w : World) (base : Nat) (vs cur : List Value) (L C : List (List (Int × Int))) : Prop where
  lots : Lots tBal w base cur C
  same : cur.length = vs.length
  reads : Reads w vs L
  pre : ∀ (i : Nat) (l c : List (Int × Int)), L[i]? = some l → C[i]? = some c → ∃ r, c = l ++ r
  row : ∀ (i : Nat) (v u : Value), vs[i]? = some v → cur[i]? = some u → u.ownBlock = v.ownBlock ∨ ∀ k, u.ownBlock = some k → w0.heap.size ≤ k
  low : ∀ (v : Value), v ∈ vs → ∀ k, v.ownBlock = some k → k < w0.heap.size
  form : ∀ (v : Value), v ∈ vs → ∀ a n c, v = .slice (some a) n c → a = ⟨a.block, 0, none⟩
  vap : ∀ (i j : Nat) (u v : Value), i ≠ j → vs[i]? = some u → vs[j]? = some v → ApartV u v
theorem Grow.start {w : World} {base : Nat} {vs : List Value} {L : List (List (Int × Int))} (h : Lots tBal w base vs L) : Grow w w base vs vs L L :=
  ⟨h, rfl, h.reads, fun i l c h1 h2 => ⟨[], by rw [h1] at h2; injection h2 with h2; simp [h2]⟩, fun i v u h1 h2 => .inl (by rw [h1] at h2; injection h2 with h2; rw [h2]), fun v hv k hk => (h.lt hv k hk).2, fun v hv a n c e => by
    obtain ⟨i, hi, hiv⟩ := List.mem_iff_getElem.1 hv
    have ho := h.own i v _ (by rw [List.getElem?_eq_getElem hi, hiv]) (List.getElem?_eq_getElem (by rw [← h.len]; exact hi))
    rcases ho.form with ⟨h1, _⟩ | ⟨g, cap, h1, _⟩
    · rw [h1] at e; cases e
    · rw [h1] at e
      injection e with e
      injection e with e
      rw [← e], h.apart⟩
theorem Grow.below {w0 w w' : World} {base : Nat} {vs cur : List Value} {L C : List (List (Int × Int))} (h : Grow w0 w base vs cur L C) (hb : Below w.heap.size w w') : Grow w0 w' base vs cur L C :=
  ⟨h.lots.below hb, h.same, h.reads.keep hb, h.pre, h.row, h.low, h.form, h.vap⟩
/-- one of them grows -/
theorem Grow.step {w0 w w' : World} {base : Nat} {vs cur : List Value} {L C : List (List (Int × Int))} {i : Nat} {u u' : Value} {c ys : List (Int × Int)} (h : Grow w0 w base vs cur L C) (h0 : w0.heap.size ≤ w.heap.size) (hu : cur[i]? = some u) (hc : C[i]? = some c)
    (ho : OwnL tBal w' base u' (c ++ ys)) (hg : w.grownBy w' u.ownBlock) (hk : u'.ownBlock = u.ownBlock ∨ u'.ownBlock = some w.heap.size ∧ ∀ k, k < w.heap.size → w'.heap[k]? = w.heap[k]?) :
    Grow w0 w' base vs (cur.set i u') L (C.set i (c ++ ys)) := by
  have hcl := h.lots.len
  have hui := (List.getElem?_eq_some_iff.1 hu).1
  have hci := (List.getElem?_eq_some_iff.1 hc).1
  refine ⟨h.lots.set bal_Free hu ho hg (hk.imp id (·.1)), by rw [List.length_set]; exact h.same, ⟨h.reads.1, fun j v l hv hl => ?_⟩, fun j l d hl hd => ?_, fun j v x hv hx => ?_, h.low, h.form, h.vap⟩
  · obtain ⟨a, k, e, hs⟩ := h.reads.2 j v l hv hl
    refine ⟨a, k, e, ?_⟩
    by_cases hj : j = i
    · subst hj
      obtain ⟨r, hr⟩ := h.pre j l c hl hc
      exact Sl.appK bal_Free (h.lots.own j u c hu hc) ho hg hk hs (fun ad ha _ => h.form v (List.mem_of_getElem? hv) ad l.length k (by rw [e, ha])) hr
    · refine Sl.free bal_Free hs (fun ad ha => ⟨trivial, ?_⟩)
      have hvk : v.ownBlock = some ad.block := by rw [e, ha]; rfl
      have hlow := h.low v (List.mem_of_getElem? hv) _ hvk
      refine ⟨by have := hg.size; omega, hg.block _ (by omega) (fun e2 => ?_)⟩
      have hil : i < vs.length := by
        have h1 := h.reads.1
        have hjl := (List.getElem?_eq_some_iff.1 hv).1
        by_cases hh : i < vs.length
        · exact hh
        · exfalso
          have := h.same; omega
      rcases h.row i vs[i] u (List.getElem?_eq_getElem hil) hu with h3 | h3
      · rcases h.vap j i v vs[i] hj hv (List.getElem?_eq_getElem hil) with h4 | h4
        · rw [hvk] at h4; cases h4
        · exact h4 (by rw [hvk, e2, h3])
      · have := h3 _ e2.symm
        omega
  · by_cases hj : i = j
    · subst hj
      rw [List.getElem?_set_self hci] at hd
      injection hd with hd
      obtain ⟨r, hr⟩ := h.pre i l c hl hc
      exact ⟨r ++ ys, by rw [← hd, hr, List.append_assoc]⟩
    · rw [List.getElem?_set_ne hj] at hd
      exact h.pre j l d hl hd
  · by_cases hj : i = j
    · subst hj
      rw [List.getElem?_set_self hui] at hx
      injection hx with hx
      subst hx
      rcases hk with hk | hk
      · rw [hk]; exact h.row i v u hv hu
      · exact .inr (fun k hk2 => by rw [hk.1] at hk2; injection hk2 with hk2; omega)
    · rw [List.getElem?_set_ne hj] at hx
      exact h.row j v x hv hx
/-- another row grows, one of the call's own that is apart from all of cur -/
theorem Grow.far {w0 w w' : World} {base : Nat} {vs cur : List Value} {L C : List (List (Int × Int))} {x : Value} (h : Grow w0 w base vs cur L C) (h0 : w0.heap.size ≤ w.heap.size) (hg : w.grownBy w' x.ownBlock) (ha : ∀ u ∈ cur, ApartV x u) (hx : ∀ k, x.ownBlock = some k → w0.heap.size ≤ k) :
    Grow w0 w' base vs cur L C := by
  refine ⟨⟨h.lots.len, fun i v l hv hl => (h.lots.own i v l hv hl).far bal_Free hg (ha v (List.mem_of_getElem? hv)).symm, h.lots.apart⟩, h.same, ⟨h.reads.1, fun j v l hv hl => ?_⟩, h.pre, h.row, h.low, h.form, h.vap⟩
  obtain ⟨a, k, e, hs⟩ := h.reads.2 j v l hv hl
  refine ⟨a, k, e, Sl.free bal_Free hs (fun ad ha => ⟨trivial, ?_⟩)⟩
  have hlow := h.low v (List.mem_of_getElem? hv) ad.block (by rw [e, ha]; rfl)
  exact ⟨by have := hg.size; omega, hg.block _ (by omega) (fun e2 => by have := hx _ e2.symm; omega)⟩

/-- the state while list n grows -/
structure GS (w wk : World) (base : Nat) (vs cur : List Value) (L C : List (List (Int × Int))) (n : Nat) (vo u : Value) (q : Nat) : Prop where
  gr : Grow w wk base vs (cur.set n u) L (C.set n (marks n 0 q))
  out : OwnL tBalV wk w.heap.size vo (cur.take n)
  ap : ∀ x ∈ cur.set n u, ApartV vo x
  but : But (InV vs) w wk
section
variable {w wk : World} {base : Nat} {vs cur : List Value} {L C : List (List (Int × Int))} {n : Nat} {vo u : Value} {q : Nat}
theorem GS.call {w2 : World} (h : GS w wk base vs cur L C n vo u q) (hb : Below wk.heap.size wk w2) : GS w w2 base vs cur L C n vo u q :=
  ⟨h.gr.below hb, h.out.below hb, h.ap, h.but.call hb⟩
theorem GS.own (h : GS w wk base vs cur L C n vo u q) (hn : n < cur.length) : OwnL tBal wk base u (marks n 0 q) := by
  have hl := h.gr.lots.len
  simp at hl
  exact h.gr.lots.own n u _ (List.getElem?_set_self hn) (List.getElem?_set_self (by omega))
theorem GS.step {w3 : World} {u' : Value} {m : Nat} (h : GS w wk base vs cur L C n vo u q) (hn : n < cur.length) (ho : OwnL tBal w3 base u' (marks n 0 q ++ marks n q m)) (hg : wk.grownBy w3 u.ownBlock)
    (hk : u'.ownBlock = u.ownBlock ∨ u'.ownBlock = some wk.heap.size ∧ ∀ k, k < wk.heap.size → w3.heap[k]? = wk.heap[k]?) : GS w w3 base vs cur L C n vo u' (q + m) := by
  have hl := h.gr.lots.len
  simp at hl
  have hu : (cur.set n u)[n]? = some u := List.getElem?_set_self hn
  have hc : (C.set n (marks n 0 q))[n]? = some (marks n 0 q) := List.getElem?_set_self (by omega)
  have hum : u ∈ cur.set n u := List.mem_of_getElem? hu
  refine ⟨?_, h.out.far balV_Free hg (h.ap u hum), fun x hx => ?_, h.but.grown hg (fun k hk2 => ?_)⟩
  · have := h.gr.step h.but.size hu hc ho hg hk
    rwa [List.set_set, List.set_set, marks_app] at this
  · obtain ⟨j, hj⟩ := List.mem_iff_getElem?.1 hx
    by_cases hjn : n = j
    · subst hjn
      rw [List.getElem?_set_self hn] at hj
      injection hj with hj
      subst hj
      exact (h.ap u hum).stepF h.out (hk.imp id (·.1))
    · rw [List.getElem?_set_ne hjn] at hj
      exact h.ap x (List.mem_of_getElem? (i := j) (by rw [List.getElem?_set_ne hjn]; exact hj))
  · have hs := h.gr.same
    simp at hs
    have hv : vs[n]? = some (vs[n]'(by omega)) := List.getElem?_eq_getElem (by omega)
    rcases h.gr.row n _ u hv hu with h3 | h3
    · exact .inl ⟨_, List.mem_of_getElem? hv, by rw [← h3, hk2]⟩
    · exact .inr (h3 k hk2)
theorem GS.push {w5 : World} {vo' : Value} (h : GS w wk base vs cur L C n vo u q) (hn : n < cur.length) (ho : OwnL tBalV w5 w.heap.size vo' (cur.take n ++ [u])) (hg : wk.grownBy w5 vo.ownBlock) (hat : vo'.ownBlock = vo.ownBlock ∨ vo'.ownBlock = some wk.heap.size) :
    Grow w w5 base vs (cur.set n u) L (C.set n (marks n 0 q)) ∧ OwnL tBalV w5 w.heap.size vo' ((cur.set n u).take (n + 1)) ∧ (∀ x ∈ cur.set n u, ApartV vo' x) ∧ But (InV vs) w w5 := by
  have hlt := h.out.lt
  refine ⟨h.gr.far h.but.size hg h.ap (fun k hk => (hlt k hk).1), ?_, fun x hx => ?_, h.but.grown hg (fun k hk => .inr (hlt k hk).1)⟩
  · have e : (cur.set n u).take (n + 1) = cur.take n ++ [u] := by
      rw [List.take_succ_eq_append_getElem (by simpa using hn)]
      simp [List.take_set_of_le]
    rw [e]
    exact ho
  · obtain ⟨j, hj⟩ := List.mem_iff_getElem?.1 hx
    have hjl := (List.getElem?_eq_some_iff.1 hj).1
    exact ((h.ap x hx).symm.stepF (h.gr.lots.own j x _ hj (List.getElem?_eq_getElem (by rw [← h.gr.lots.len]; exact hjl))) hat).symm
end
theorem infoBalV : (Tryz.prog.info? 49).map (fun i => (i.zero, i.size, i.bytes)) = some (some (.slice none 0 0), 1, 24) := by kernel_rfl
end Go.Proofs.YtgggpaacagbmcaaGreat


/- variorumbook: growBalances, walked. -/
set_option linter.unusedVariables false
set_option linter.unusedSimpArgs false
namespace Go.Proofs.YtgggpaacagbmcaaGreat
open Go.RowKit Go.Maps Go.Deep

theorem mark1 {w w2 : World} {v : Value} {n q m : Nat} (h : OwnL tBal w2 w.heap.size v (marks n q m)) (hm : 0 < m) : ∃ g c, v = .slice (some ⟨g, 0, none⟩) (marks n q m).length c ∧ w.heap.size ≤ g ∧ Sl tBal w2 (fun _ => True) (some ⟨g, 0, none⟩) (marks n q m) := by
  have hl := marks_len n q m
  have hlt := h.lt
  rcases h.form with ⟨_, h0⟩ | ⟨g, c, rfl, _⟩
  · rw [h0] at hl; simp at hl; omega
  · exact ⟨g, c, rfl, (hlt g rfl).1, h.sl⟩
theorem sl_far {wk w2 : World} {u : Value} {xs ys : List (Int × Int)} {base g : Nat} (hs : Sl tBal w2 (fun _ => True) (some ⟨g, 0, none⟩) ys) (ho : OwnL tBal wk base u xs) (hg : wk.heap.size ≤ g) : Sl tBal w2 (fun k => some k ≠ u.ownBlock ∧ k < w2.heap.size) (some ⟨g, 0, none⟩) ys := by
  intro i x hx
  obtain ⟨ad, ces, ha, _, hlt, hc, hr⟩ := hs i x hx
  injection ha with ha
  subst ha
  refine ⟨_, ces, rfl, ⟨fun e => ?_, hlt⟩, hlt, hc, bal_free _ _ _ _ _ hr⟩
  have := (ho.lt _ e.symm).2
  have h2 : g < wk.heap.size := this
  omega

theorem sl_oneV {w : World} {F : Nat → Prop} {b : Nat} {a : Option Addr} {n c : Nat} (hb : w.heap[b]? = some (.cells #[.slice a n c] 49 (0, 0))) (hF : F b) : Sl tBalV w F (some ⟨b, 0, none⟩) [.slice a n c] := by
  intro i y hi
  cases i with
  | succ i => simp at hi
  | zero =>
    simp at hi
    subst hi
    refine ⟨_, [.slice a n c], rfl, hF, (Array.getElem?_eq_some_iff.1 hb).1, fun j v hv => ?_, rfl, _, _, _, rfl⟩
    cases j with
    | succ j => simp at hv
    | zero =>
      simp at hv
      subst hv
      rw [Nat.zero_mul, Go.Addr.add_add, add0, blk_cells hb]
      rfl
theorem balV_one (w : World) (F : Nat → Prop) (c : List Value) (x : Value) (h : tBalV.R w F c x) : ∀ u ∈ c, u.oneCell' = true := by
  obtain ⟨rfl, a, n, k, rfl⟩ := h
  simp [Value.oneCell']
theorem grow_next {vs cur : List Value} {L C : List (List (Int × Int))} {n q : Nat} {u : Value} (h : ∀ (i : Nat) (c : List (Int × Int)), C[i]? = some c → (i < n → c = marks i 0 c.length ∧ c.length ≤ 100072) ∧ (n ≤ i → L[i]? = some c ∧ cur[i]? = vs[i]?)) (hn : n < C.length) (hq : q ≤ 100072) :
    ∀ (i : Nat) (c : List (Int × Int)), (C.set n (marks n 0 q))[i]? = some c → (i < n + 1 → c = marks i 0 c.length ∧ c.length ≤ 100072) ∧ (n + 1 ≤ i → L[i]? = some c ∧ (cur.set n u)[i]? = vs[i]?) := by
  intro i c hc
  by_cases hi : n = i
  · subst hi
    rw [List.getElem?_set_self hn] at hc
    injection hc with hc
    subst hc
    rw [marks_len]
    exact ⟨fun _ => ⟨rfl, hq⟩, fun h2 => by omega⟩
  · rw [List.getElem?_set_ne hi] at hc
    have := h i c hc
    exact ⟨fun h2 => this.1 (by omega), fun h2 => by rw [List.getElem?_set_ne hi]; exact this.2 (by omega)⟩

set_option maxHeartbeats 16000000 in
set_option maxRecDepth 100000 in
theorem growBal_far {w : World} {b base : Nat} {cs : Array Value} {a6 : Option Addr} {c6 : Nat} {vs : List Value} {L : List (List (Int × Int))} (hb : w.heap[b]? = some (.cells cs 48 (0, 0)))
    (h6 : cs[6]? = some (.slice a6 vs.length c6)) (ho : OwnL tBalV w base (.slice a6 vs.length c6) vs) (hl : Lots tBal w base vs L) (hbb : ¬ InV vs b) (hap : ∀ v ∈ vs, ApartV (.slice a6 vs.length c6) v) (hn : vs.length ≤ 1000)
    (hL : ∀ (i : Nat) (l : List (Int × Int)), L[i]? = some l → l = marks i 0 l.length ∧ l.length ≤ 100000) (hbs : base ≤ w.heap.size) :
    Calls Tryz.prog 61 #[.pointer (some ⟨b, 0, none⟩)] w fun e w' => ∃ vo cur C, e = .returned vo ∧ OwnL tBalV w' w.heap.size vo cur ∧ Reads w' cur C ∧ Reads w' vs L ∧ But (InV vs) w w' ∧ cur.length = vs.length ∧ (∀ (i : Nat) (l : List (Int × Int)), C[i]? = some l → (l = marks i 0 l.length ∧ l.length ≤ 100072)) ∧ ∀ k, InV cur k → InV vs k ∨ w.heap.size ≤ k := by
  obtain ⟨i0, hi, hz0, hz1, hz2⟩ := info_parts infoBal
  obtain ⟨j0, hj, hy0, hy1, hy2⟩ := info_parts infoBalV
  have HSW : Hid (∀ W, But (InV vs) w W → Sl tBalV W (fun _ => True) a6 vs) := Lib.hid (fun W hW => (ho.but balV_Free hW (fun k hk hf => by
    obtain ⟨v, hv, hvk⟩ := hf
    rcases hap v hv with h | h
    · rw [h] at hk; cases hk
    · exact h (by rw [hk, hvk]))).sl)
  have HG0 := Lib.hid (Grow.start hl)
  have HL := Lib.hid hL
  have hbl := blk_lt hb
  have HC6 : Hid (∀ W, But (InV vs) w W → W.cell? ⟨b, 6, none⟩ = some (.slice a6 vs.length c6)) := Lib.hid (fun W hW => by rw [blk_cells ((hW.block b hbl hbb).trans hb)]; exact h6)
  clear ho hl hL hb h6 hap
  go_enter Tryz.func61, Tryz.ntmps61
  go_wp2_with fail
  go_loopw [3, 4] (fun vo vi wr => ∃ (n : Nat) (vx : Value) (cur : List Value) (C : List (List (Int × Int))), vx = vo ∧ n ≤ vs.length ∧ vi = .int .i64 n ∧ Hid (Grow w wr base vs cur L C) ∧ Hid (OwnL tBalV wr w.heap.size vx (cur.take n)) ∧ Hid (∀ x ∈ cur, ApartV vx x) ∧ But (InV vs) w wr ∧ Hid (∀ (i : Nat) (c : List (Int × Int)), C[i]? = some c → (i < n → c = marks i 0 c.length ∧ c.length ≤ 100072) ∧ (n ≤ i → L[i]? = some c ∧ cur[i]? = vs[i]?))) (fun _ vi _ => vs.length - (Go.RowKit.intOf vi).toNat)
  case atStart => exact ⟨0, _, vs, L, rfl, Nat.zero_le _, rfl, HG0, Lib.hid (OwnL.nil _ _), Lib.hid (fun x _ => .inl rfl), But.refl _ _, Lib.hid (fun i c h => ⟨fun h0 => by omega, fun _ => ⟨h, rfl⟩⟩)⟩
  case round =>
    obtain ⟨n, vo, cur, C, rfl, hnn, rfl, HG, HO, HAP, hbt, HCM⟩ := hrel
    have HB := Lib.hid hbt
    have hbl' : b < wr.heap.size := Nat.lt_of_lt_of_le hbl hbt.size
    have hz6 := HC6.out wr hbt
    clear hbt
    by_cases hlt : n < vs.length
    · have hcl := HG.out.same
      have hcC := HG.out.lots.len
      have hlt2 : n < C.length := by omega
      obtain ⟨l, hl⟩ : ∃ l, C[n]? = some l := ⟨_, List.getElem?_eq_getElem hlt2⟩
      obtain ⟨hlL, hcv⟩ := (HCM.out n l hl).2 (Nat.le_refl _)
      obtain ⟨hlm, hll⟩ := HL.out n l hlL
      obtain ⟨v, hv⟩ : ∃ v, vs[n]? = some v := ⟨_, List.getElem?_eq_getElem hlt⟩
      have hvn : vs[n] = v := by rw [List.getElem?_eq_getElem hlt] at hv; injection hv
      obtain ⟨ad, rfl, hadl, hc0⟩ := val_at (HSW.out wr HB.out) n hlt
      rw [hvn] at hc0
      have HV0 := Lib.hid (hcv.trans hv)
      have HS0 : Hid (GS w wr base vs cur L C n vo v l.length) := Lib.hid ⟨by rw [set_self (hcv.trans hv), ← hlm, set_self hl]; exact HG.out, HO.out, by rw [set_self (hcv.trans hv)]; exact HAP.out, HB.out⟩
      have hncur : n < cur.length := by omega
      obtain ⟨va, vc, hve, _⟩ := (HS0.out.own hncur).slice
      rw [marks_len] at hve
      subst hve
      have HCL := Lib.hid hcl
      clear hl hlL hcv hlm hv hvn hcl hcC
      go_wp2_with fail
      go_loopw [5, 6] (fun vu vm wk => ∃ (m q : Nat) (vx : Value), vx = vu ∧ q = l.length + m ∧ m ≤ 12 ∧ vm = .int .i64 m ∧ Hid (GS w wk base vs cur L C n vo vx q)) (fun _ vm _ => 12 - (Go.RowKit.intOf vm).toNat)
      case atStart => exact ⟨0, _, _, rfl, rfl, Nat.zero_le _, rfl, HS0⟩
      case round =>
        obtain ⟨m, q, u, rfl, hq, hm, rfl, HS⟩ := hrel
        obtain ⟨ua, uc, hue, hu1, hu2, _⟩ := (HS.out.own hncur).slice
        rw [marks_len] at hue hu1
        subst hue
        by_cases hm12 : m < 12
        · have HMK : Hid (Calls Tryz.prog 116 #[.int .i64 (n : Int), .int .i64 (q : Int), .int .i64 1] wr fun e w' => ∃ v, e = .returned v ∧ OwnL tBal w' wr.heap.size v (marks n q 1) ∧ Below wr.heap.size wr w') := Lib.hid (markBal_any n q 1 (by omega) (by omega) (by omega) wr)
          have hm12' : (m : Int) < 12 := by omega
          have HQ := Lib.hid hq
          clear hq
          go_wp2_with fail
          refine HMK.out.mono ?_
          rintro en w2 ⟨v2, rfl, ho2, hb2⟩
          obtain ⟨g2, c2, rfl, hg2, hms⟩ := mark1 ho2 (by omega)
          have HS2 : Hid (GS w w2 base vs cur L C n vo (.slice ua q uc) q) := Lib.hid (HS.out.call hb2)
          have HO2 := Lib.hid (HS2.out.own hncur)
          have HSL := Lib.hid (sl_far hms (HS.out.own hncur) hg2)
          have h63 : (marks n 0 q).length + (marks n q 1).length ≤ maxLen := by rw [marks_len, marks_len]; unfold maxLen; have := HQ.out; omega
          have hby : ((marks n 0 q).length + (marks n q 1).length) * 16 ≤ 140737488355328 := by rw [marks_len, marks_len]; have := HQ.out; omega
          have HBS : Hid (base ≤ w2.heap.size) := Lib.hid (by have := HS2.out.but.size; omega)
          clear ho2 hb2 hms hg2 HMK
          go_wp2_with (at_builtin; refine wp_appK (T := tBal) rfl _ _ 49 rfl i0 (.agg #[.int .i64 0, .int .i64 0]) 16 Tryz.underlying49 hi hz0 hz1 hz2 rfl (by decide) bal_one base (.slice ua q uc) (marks n 0 q) rfl HO2.out ⟨g2, 0, none⟩ c2 (marks n q 1) rfl HSL.out h63 hby HBS.out ?_; intro v3 w3 hown hg hk; have HS3 : Hid (GS w w3 base vs cur L C n vo v3 (q + 1)) := Lib.hid (HS2.out.step hncur hown hg hk); clear hown hg hk)
          go_roundw
          case rel => exact ⟨m + 1, q + 1, _, rfl, by have := HQ.out; omega, by omega, by go_num, HS3⟩
          case measure => simp [Go.RowKit.intOf]; omega
        · obtain rfl : m = 12 := by omega
          have HMK : Hid (Calls Tryz.prog 116 #[.int .i64 (n : Int), .int .i64 (q : Int), .int .i64 60] wr fun e w' => ∃ v, e = .returned v ∧ OwnL tBal w' wr.heap.size v (marks n q 60) ∧ Below wr.heap.size wr w') := Lib.hid (markBal_any n q 60 (by omega) (by omega) (by omega) wr)
          have HQ := Lib.hid hq
          clear hq
          go_wp2_with fail
          refine HMK.out.mono ?_
          rintro en w2 ⟨v2, rfl, ho2, hb2⟩
          obtain ⟨g2, c2, rfl, hg2, hms⟩ := mark1 ho2 (by omega)
          have HS2 : Hid (GS w w2 base vs cur L C n vo (.slice ua q uc) q) := Lib.hid (HS.out.call hb2)
          have HO2 := Lib.hid (HS2.out.own hncur)
          have HSL := Lib.hid (sl_far hms (HS.out.own hncur) hg2)
          have h63 : (marks n 0 q).length + (marks n q 60).length ≤ maxLen := by rw [marks_len, marks_len]; unfold maxLen; have := HQ.out; omega
          have hby : ((marks n 0 q).length + (marks n q 60).length) * 16 ≤ 140737488355328 := by rw [marks_len, marks_len]; have := HQ.out; omega
          have HBS : Hid (base ≤ w2.heap.size) := Lib.hid (by have := HS2.out.but.size; omega)
          clear ho2 hb2 hms hg2 HMK
          have hnb : (cur.take n).length = n := by have := HCL.out; rw [List.length_take]; omega
          have HTN := Lib.hid hnb
          clear hnb
          go_wp2_with (first
            | (at_builtin; refine wp_appK (T := tBal) rfl _ _ 49 rfl i0 (.agg #[.int .i64 0, .int .i64 0]) 16 Tryz.underlying49 hi hz0 hz1 hz2 rfl (by decide) bal_one base (.slice ua q uc) (marks n 0 q) rfl HO2.out ⟨g2, 0, none⟩ c2 (marks n q 60) rfl HSL.out h63 hby HBS.out ?_; intro v3 w3 hown hg hk; have hS3 : GS w w3 base vs cur L C n vo v3 (q + 60) := HS2.out.step hncur hown hg hk; obtain ⟨xa, xc, hxe, _⟩ := (hS3.own hncur).slice; rw [marks_len] at hxe; subst hxe; have HS3 := Lib.hid hS3; have HOA : Hid (OwnL tBalV (w3.alloc (.cells #[.slice xa (q + 60) xc] 49)) w.heap.size vo (cur.take n)) := Lib.hid (hS3.out.alloc _); have HSV : Hid (Sl tBalV (w3.alloc (.cells #[.slice xa (q + 60) xc] 49)) (fun k => some k ≠ vo.ownBlock ∧ k < (w3.alloc (.cells #[.slice xa (q + 60) xc] 49)).heap.size) (some ⟨w3.heap.size, 0, none⟩) [.slice xa (q + 60) xc]) := Lib.hid (sl_oneV (blk_new w3 _) ⟨fun e => by have := (hS3.out.lt _ e.symm).2; omega, by simp⟩); clear hown hg hk hS3)
            | (at_builtin; refine wp_app (T := tBalV) rfl _ _ 40 rfl j0 (.slice none 0 0) 24 Tryz.underlying40 hj hy0 hy1 hy2 rfl (by decide) balV_one w.heap.size vo (cur.take n) rfl HOA.out ⟨w3.heap.size, 0, none⟩ 1 [.slice xa (q + 60) xc] rfl HSV.out (by rw [HTN.out]; unfold maxLen; simp; omega) (by rw [HTN.out]; simp; omega) (by have := HS3.out.but.size; simp; omega) ?_; intro v4 w4 hown hg _ hat; have HN4 := Lib.hid ((HS3.out.call ((Below.refl _ _).alloc (Nat.le_refl _) (.cells #[.slice xa (q + 60) xc] 49))).push hncur hown hg hat); clear hown hg hat))
          go_roundw
          case rel => exact ⟨n + 1, _, _, _, rfl, by omega, by go_num, Lib.hid HN4.out.1, Lib.hid HN4.out.2.1, Lib.hid HN4.out.2.2.1, HN4.out.2.2.2, Lib.hid (grow_next HCM.out hlt2 (by have := HQ.out; omega))⟩
          case measure => simp [Go.RowKit.intOf]; omega
    · obtain rfl : n = vs.length := by omega
      go_wp2_with fail
      go_ret
      have hcl := HG.out.same
      refine ⟨_, cur, C, rfl, by have := HO.out; rwa [List.take_of_length_le (by omega)] at this, HG.out.lots.reads, HG.out.reads, HB.out, hcl, fun i l hl => ((HCM.out i l hl).1 ?_), fun k ⟨u, hu, hk⟩ => ?_⟩
      · have := (List.getElem?_eq_some_iff.1 hl).1
        have := HG.out.lots.len
        omega
      · obtain ⟨i, hi⟩ := List.mem_iff_getElem?.1 hu
        have hil := (List.getElem?_eq_some_iff.1 hi).1
        rcases HG.out.row i vs[i] u (List.getElem?_eq_getElem (by omega)) hi with h | h
        · exact .inl ⟨vs[i], List.getElem_mem _, by rw [← h, hk]⟩
        · exact .inr (h k hk)
theorem growBal_any {w : World} {b base : Nat} {cs : Array Value} {a6 : Option Addr} {c6 : Nat} {vs : List Value} {L : List (List (Int × Int))} (hb : w.heap[b]? = some (.cells cs 48 (0, 0)))
    (h6 : cs[6]? = some (.slice a6 vs.length c6)) (ho : OwnL tBalV w base (.slice a6 vs.length c6) vs) (hl : Lots tBal w base vs L) (hbb : ¬ InV vs b) (hap : ∀ v ∈ vs, ApartV (.slice a6 vs.length c6) v) (hn : vs.length ≤ 1000)
    (hL : ∀ (i : Nat) (l : List (Int × Int)), L[i]? = some l → l = marks i 0 l.length ∧ l.length ≤ 100000) (hbs : base ≤ w.heap.size) :
    Calls Tryz.prog 61 #[.pointer (some ⟨b, 0, none⟩)] w fun e w' => ∃ vo cur C, e = .returned vo ∧ OwnL tBalV w' w.heap.size vo cur ∧ Reads w' cur C ∧ Reads w' vs L ∧ But (InV vs) w w' ∧ cur.length = vs.length ∧ ∀ (i : Nat) (l : List (Int × Int)), C[i]? = some l → l = marks i 0 l.length ∧ l.length ≤ 100072 := by
  refine (growBal_far hb h6 ho hl hbb hap hn hL hbs).mono ?_
  rintro e w' ⟨vo, cur, C, he, h1, h2, h3, h4, h5, h6, _⟩
  exact ⟨vo, cur, C, he, h1, h2, h3, h4, h5, h6⟩
end Go.Proofs.YtgggpaacagbmcaaGreat
