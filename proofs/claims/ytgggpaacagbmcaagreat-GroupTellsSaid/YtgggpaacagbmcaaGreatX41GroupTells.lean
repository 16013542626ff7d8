/- The document's balances: may it be asked, all lines. -/
import Derived.Test.YtgggpaacagbmcaaGreatX12GroupTells
import Derived.Test.YtgggpaacagbmcaaGreatX14GroupTells
import Derived.Test.YtgggpaacagbmcaaGreatX05GroupTells
import Derived.Test.YtgggpaacagbmcaaGreatX39GroupTells
import Derived.Test.YtgggpaacagbmcaaGreatX40GroupTells
set_option linter.unusedVariables false
set_option linter.unusedSimpArgs false
namespace Go.Proofs.YtgggpaacagbmcaaGreat
open Go.RowKit Go.Maps Go.Deep

theorem Sl.ofLn {w W : World} {la : Option Addr} {xs : List Ln} {F : Nat → Prop} {v : Value} {B : Nat} (h : Sl tLn w F la xs) (hb : Below B w W) (hB : ∀ k, F k → k < B) (hv : ∀ k, v.ownBlock = some k → B ≤ k) : Sl tLn W (fun k => some k ≠ v.ownBlock ∧ k < W.heap.size) la xs := by
  intro i x hx
  obtain ⟨ad, ces, ha, hf, hlt, hc, hr⟩ := h i x hx
  have hs := hb.size
  have hl := hB _ hf
  refine ⟨ad, ces, ha, ⟨fun e => by have := hv _ e.symm; omega, by omega⟩, by omega, fun j u hu => ?_, ?_⟩
  · rw [← hc j u hu]
    exact World.cell?_of_block (w := w) (by rw [add_block, add_block]; exact hb.block _ hl)
  · obtain ⟨rfl, h1, h2, h3⟩ := ln_inv hr
    exact ln_mk _ h1 h2 h3

set_option maxHeartbeats 8000000 in
set_option maxRecDepth 100000 in
theorem r10Lines_any (J : List Jn) (a : Option Addr) (cap : Nat) (e f t : Int) (w : World) {F : Nat → Prop} (hs : Sl tJn w F a J) (hg : GoodJ J) (hl : J.length ≤ 1000) :
    Calls Tryz.prog 19 #[.slice a J.length cap, .int .i64 e, .int .i64 f, .int .i64 t] w fun en w' => ∃ v, en = .returned v ∧ OwnL tLn w' w.heap.size v (linesOf J e f t) ∧ Below w.heap.size w w' := by
  have HS : Hid (Sl tJn w (fun k => k < w.heap.size) a J) := Sl.mono (fun k hk _ => hk) hs
  have HG := Lib.hid hg
  clear hs hg
  obtain ⟨i0, hi, hz0, hz1, hz2⟩ := info_parts infoL
  go_enter Tryz.func19, Tryz.ntmps19
  go_wp2_with fail
  go_loopw [9, 10] (fun vo vi wr => ∃ (n : Nat) (vx : Value), vx = vo ∧ n ≤ J.length ∧ vi = .int .i64 n ∧ OwnL tLn wr w.heap.size vx (linesOf (J.take n) e f t) ∧ Below w.heap.size w wr) (fun _ vi _ => J.length - (intOf vi).toNat)
  case atStart => exact ⟨0, _, rfl, Nat.zero_le _, rfl, OwnL.nil _ _, Below.refl _ _⟩
  case round =>
    obtain ⟨n, vo, rfl, hn, rfl, ho, hb⟩ := hrel
    have HO := Lib.hid ho
    have HB := Lib.hid hb
    clear ho hb
    by_cases hlt : n < J.length
    · obtain ⟨ad, la, lc, rfl, _, hadl, hc0, hc1, hc2, hc3, hc4, hc5, hr⟩ := jn_at (Sl.keep (fun k hk _ => HB.out.block k hk) HS.out) n hlt
      have HTK := Lib.hid (linesOf_succ e f t J n hlt)
      have hnum : (linesOf (J.take n) e f t).length ≤ 8000 := linesOf_len (fun x hx => HG.out x (List.mem_of_mem_take hx)) (by rw [List.length_take]; omega) e f t
      have hgx := HG.out _ (List.getElem_mem hlt)
      obtain ⟨b, hcb⟩ : ∃ b, cnt e f t J[n] = b := ⟨_, rfl⟩
      have hcs := cnt_cases hcb
      rw [hcb] at HTK
      generalize J[n] = x at *
      have HLX := Lib.hid (jcs_inv hr).2.2.2.2.1
      clear hr hcb
      rcases hcs with ⟨rfl, h1 | ⟨h1, h2 | ⟨h2, h3 | ⟨h3, h4⟩⟩⟩⟩ | ⟨rfl, h1, h2, h3, h4⟩
      · have HN : Hid (linesOf (J.take (n + 1)) e f t = linesOf (J.take n) e f t) := Lib.hid (by rw [HTK.out]; simp)
        go_wp2_with fail
        go_roundw
        case rel => exact ⟨n + 1, _, rfl, by omega, by go_num, by rw [HN.out]; exact HO.out, HB.out⟩
        case measure => simp [intOf]; omega
      · have HN : Hid (linesOf (J.take (n + 1)) e f t = linesOf (J.take n) e f t) := Lib.hid (by rw [HTK.out]; simp)
        go_wp2_with fail
        go_roundw
        case rel => exact ⟨n + 1, _, rfl, by omega, by go_num, by rw [HN.out]; exact HO.out, HB.out⟩
        case measure => simp [intOf]; omega
      · have HN : Hid (linesOf (J.take (n + 1)) e f t = linesOf (J.take n) e f t) := Lib.hid (by rw [HTK.out]; simp)
        go_wp2_with fail
        go_roundw
        case rel => exact ⟨n + 1, _, rfl, by omega, by go_num, by rw [HN.out]; exact HO.out, HB.out⟩
        case measure => simp [intOf]; omega
      · have HN : Hid (linesOf (J.take (n + 1)) e f t = linesOf (J.take n) e f t) := Lib.hid (by rw [HTK.out]; simp)
        go_wp2_with fail
        go_roundw
        case rel => exact ⟨n + 1, _, rfl, by omega, by go_num, by rw [HN.out]; exact HO.out, HB.out⟩
        case measure => simp [intOf]; omega
      have HN : Hid (linesOf (J.take (n + 1)) e f t = linesOf (J.take n) e f t ++ x.lines) := Lib.hid (by rw [HTK.out]; simp)
      obtain ⟨lad, rfl⟩ : ∃ lad, la = some lad := by
        cases hxl : x.lines with
        | nil => exact absurd hxl hgx.1
        | cons y ys =>
          obtain ⟨ad', _, h, _⟩ := HLX.out 0 y (by rw [hxl]; rfl)
          exact ⟨ad', h⟩
      have HSL : Hid (Sl tLn wr (fun k => some k ≠ vo.ownBlock ∧ k < wr.heap.size) (some lad) x.lines) := Lib.hid (Sl.ofLn HLX.out (Below.refl w.heap.size wr) (fun k hk => hk) (fun k hk => (HO.out.lt k hk).1))
      have h63 : (linesOf (J.take n) e f t).length + x.lines.length ≤ maxLen := by have := hgx.2; unfold maxLen; omega
      have hby : ((linesOf (J.take n) e f t).length + x.lines.length) * 24 ≤ 140737488355328 := by have := hgx.2; omega
      clear hgx hadl
      go_wp2_with (at_builtin; refine wp_app (T := tLn) rfl _ _ 67 rfl i0 (.agg #[.int .i64 0, .int .i64 0, .int .i64 0]) 24 Tryz.underlying67 hi hz0 hz1 hz2 rfl (by decide) ln_one w.heap.size vo (linesOf (J.take n) e f t) rfl HO.out lad lc x.lines rfl HSL.out h63 hby HB.out.size ?_; intro v3 w3 hown hg hnil hat; have HO3 := Lib.hid hown; have HB3 := Lib.hid (Below.grown HB.out hg HB.out.size (fun k e => (HO.out.lt k e).1)); clear hown hg hnil hat)
      go_roundw
      case rel => exact ⟨n + 1, _, rfl, by omega, by go_num, by rw [HN.out]; exact HO3.out, HB3.out⟩
      case measure => simp [intOf]; omega
    · have HL : Hid (J.take n = J) := Lib.hid (take_all hn hlt)
      have hown := HO.out
      rw [HL.out] at hown
      have HW := Lib.hid hown
      clear hown
      go_wp2_with fail
      go_ret
      exact ⟨_, rfl, HW.out, HB.out⟩
end Go.Proofs.YtgggpaacagbmcaaGreat


/- The document's group: the block of its result, and what stands beside it. -/
set_option linter.unusedVariables false
set_option linter.unusedSimpArgs false
namespace Go.Proofs.YtgggpaacagbmcaaGreat
open Go.RowKit Go.Maps Go.Deep

structure DSt (w0 w : World) (v : Value) (L : List (Int × Int)) (a b c d e f : Int) : Prop where
  bel : Below w0.heap.size w0 w
  res : w.heap[w0.heap.size]? = some (.cells #[.slice none 0 0, .int .i64 0, .int .i64 0, .int .i64 0, .int .i64 0, .int .i64 0, .int .i64 0] 57 (0, 0))
  cell : w.heap[w0.heap.size + 1]? = some (.cells #[v, .int .i64 a, .int .i64 b, .int .i64 c, .int .i64 d, .int .i64 e, .int .i64 f] 57 (0, 0))
  own : OwnL tBal w (w0.heap.size + 2) v L
section
variable {w0 w w' : World} {v v' : Value} {L L' : List (Int × Int)} {a b c d e f d' e' f' : Int}
theorem DSt.new (w0 : World) : DSt w0 ((w0.alloc (.cells #[.slice none 0 0, .int .i64 0, .int .i64 0, .int .i64 0, .int .i64 0, .int .i64 0, .int .i64 0] 57)).alloc (.cells #[.slice none 0 0, .int .i64 0, .int .i64 0, .int .i64 0, .int .i64 0, .int .i64 0, .int .i64 0] 57)) (.slice none 0 0) [] 0 0 0 0 0 0 :=
  ⟨((Below.refl _ _).alloc (Nat.le_refl _) _).alloc (by simp) _, blk_alloc (blk_new w0 _) _, by
    have := blk_new (w0.alloc (.cells #[.slice none 0 0, .int .i64 0, .int .i64 0, .int .i64 0, .int .i64 0, .int .i64 0, .int .i64 0] 57)) (.cells #[.slice none 0 0, .int .i64 0, .int .i64 0, .int .i64 0, .int .i64 0, .int .i64 0, .int .i64 0] 57)
    simpa using this, OwnL.nil _ _⟩
theorem DSt.lt (h : DSt w0 w v L a b c d e f) : w0.heap.size + 2 ≤ w.heap.size := blk_lt h.cell
theorem DSt.call (h : DSt w0 w v L a b c d e f) (hb : Below w.heap.size w w') : DSt w0 w' v L a b c d e f :=
  ⟨belows_then h.bel h.bel.size hb, blk_below h.res hb, blk_below h.cell hb, h.own.below hb⟩
theorem DSt.putL (h : DSt w0 w v L a b c d e f) (hb : Below w.heap.size w w') (ho : OwnL tBal w' w.heap.size v' L') : DSt w0 (w'.setCell ⟨w0.heap.size + 1, 0, none⟩ v') v' L' a b c d e f :=
  ⟨(belows_then h.bel h.bel.size hb).setCell (by simp) _, blk_far (blk_below h.res hb) (by simp) _, by have := blk_set (blk_below h.cell hb) 0 v'; simpa using this,
    (ho.mono h.lt).keepF bal_Free (fun k hk => Below.heap_setCell _ _ _ k (by have := (ho.lt k hk).1; have := h.lt; show k ≠ w0.heap.size + 1; omega))⟩
theorem DSt.own_set (h : DSt w0 w v L a b c d e f) (i : Nat) (u : Value) : OwnL tBal (w.setCell ⟨w0.heap.size + 1, i, none⟩ u) (w0.heap.size + 2) v L :=
  h.own.keepF bal_Free (fun k hk => Below.heap_setCell _ _ _ k (by have := (h.own.lt k hk).1; show k ≠ w0.heap.size + 1; omega))
theorem DSt.set1 (h : DSt w0 w v L a b c d e f) (x : Int) : DSt w0 (w.setCell ⟨w0.heap.size + 1, 1, none⟩ (.int .i64 x)) v L x b c d e f :=
  ⟨h.bel.setCell (by simp) _, blk_far h.res (by simp) _, by have := blk_set h.cell 1 (.int .i64 x); simpa using this, h.own_set _ _⟩
theorem DSt.set2 (h : DSt w0 w v L a b c d e f) (x : Int) : DSt w0 (w.setCell ⟨w0.heap.size + 1, 2, none⟩ (.int .i64 x)) v L a x c d e f :=
  ⟨h.bel.setCell (by simp) _, blk_far h.res (by simp) _, by have := blk_set h.cell 2 (.int .i64 x); simpa using this, h.own_set _ _⟩
theorem DSt.set3 (h : DSt w0 w v L a b c d e f) (x : Int) : DSt w0 (w.setCell ⟨w0.heap.size + 1, 3, none⟩ (.int .i64 x)) v L a b x d e f :=
  ⟨h.bel.setCell (by simp) _, blk_far h.res (by simp) _, by have := blk_set h.cell 3 (.int .i64 x); simpa using this, h.own_set _ _⟩
theorem DSt.set4 (h : DSt w0 w v L a b c d e f) (x : Int) : DSt w0 (w.setCell ⟨w0.heap.size + 1, 4, none⟩ (.int .i64 x)) v L a b c x e f :=
  ⟨h.bel.setCell (by simp) _, blk_far h.res (by simp) _, by have := blk_set h.cell 4 (.int .i64 x); simpa using this, h.own_set _ _⟩
theorem DSt.set5 (h : DSt w0 w v L a b c d e f) (x : Int) : DSt w0 (w.setCell ⟨w0.heap.size + 1, 5, none⟩ (.int .i64 x)) v L a b c d x f :=
  ⟨h.bel.setCell (by simp) _, blk_far h.res (by simp) _, by have := blk_set h.cell 5 (.int .i64 x); simpa using this, h.own_set _ _⟩
theorem DSt.set6 (h : DSt w0 w v L a b c d e f) (x : Int) : DSt w0 (w.setCell ⟨w0.heap.size + 1, 6, none⟩ (.int .i64 x)) v L a b c d e x :=
  ⟨h.bel.setCell (by simp) _, blk_far h.res (by simp) _, by have := blk_set h.cell 6 (.int .i64 x); simpa using this, h.own_set _ _⟩
/-- with the member's block, and the balances that were turned -/
structure TSt (w0 w : World) (g : Nat) (mcs : Array Value) (ta : Option Addr) (T : List (Int × Int)) (v : Value) (L : List (Int × Int)) (a b c d e f : Int) : Prop where
  ds : DSt w0 w v L a b c d e f
  ge : w0.heap.size + 2 ≤ g
  mb : w.heap[g]? = some (.cells mcs 90 (0, 0))
  sl : Sl tBal w (fun k => w0.heap.size + 2 ≤ k) ta T
variable {g : Nat} {mcs : Array Value} {ta : Option Addr} {T : List (Int × Int)}
theorem TSt.call (h : TSt w0 w g mcs ta T v L a b c d e f) (hb : Below w.heap.size w w') : TSt w0 w' g mcs ta T v L a b c d e f :=
  ⟨h.ds.call hb, h.ge, blk_below h.mb hb, Sl.keep (fun k hk _ => hb.block k hk) h.sl⟩
theorem TSt.far (h : TSt w0 w g mcs ta T v L a b c d e f) (i : Nat) (u : Value) (hd : DSt w0 (w.setCell ⟨w0.heap.size + 1, i, none⟩ u) v' L' a b c d' e' f') : TSt w0 (w.setCell ⟨w0.heap.size + 1, i, none⟩ u) g mcs ta T v' L' a b c d' e' f' :=
  ⟨hd, h.ge, blk_far h.mb (by have := h.ge; show g ≠ w0.heap.size + 1; omega) _, Sl.keep (fun k hk hF => Below.heap_setCell _ _ _ k (by show k ≠ w0.heap.size + 1; omega)) h.sl⟩
theorem TSt.putL (h : TSt w0 w g mcs ta T v L a b c d e f) (hb : Below w.heap.size w w') (ho : OwnL tBal w' w.heap.size v' L') : TSt w0 (w'.setCell ⟨w0.heap.size + 1, 0, none⟩ v') g mcs ta T v' L' a b c d e f :=
  (h.call hb).far 0 v' (h.ds.putL hb ho)
theorem TSt.set4 (h : TSt w0 w g mcs ta T v L a b c d e f) (x : Int) : TSt w0 (w.setCell ⟨w0.heap.size + 1, 4, none⟩ (.int .i64 x)) g mcs ta T v L a b c x e f := h.far 4 _ (h.ds.set4 x)
theorem TSt.set5 (h : TSt w0 w g mcs ta T v L a b c d e f) (x : Int) : TSt w0 (w.setCell ⟨w0.heap.size + 1, 5, none⟩ (.int .i64 x)) g mcs ta T v L a b c d x f := h.far 5 _ (h.ds.set5 x)
end
/-- a list that a call has made -/
def PutF (w w' : World) (L : List (Int × Int)) (a : Option Addr) (c : Nat) : Prop := Below w.heap.size w w' ∧ OwnL tBal w' w.heap.size (.slice a L.length c) L
theorem gck_pos : ∀ (ms : List Mb) (la : Int), gck la ms = true → ∀ m ∈ ms, la < m.en
  | [], _, _, m, hm => by simp at hm
  | x :: r, la, h, m, hm => by
    unfold gck at h
    rw [Bool.and_eq_true] at h
    have hx : la < x.en := by
      have := h.1
      unfold okM at this
      simp at this
      exact this.1
    rcases List.mem_cons.1 hm with rfl | hm
    · exact hx
    · exact Int.lt_trans hx (gck_pos r x.en h.2 m hm)
theorem grpB_pos {ms : List Mb} (h : grpB ms = true) : ∀ m ∈ ms, 0 < m.en := by
  unfold grpB at h
  simp only [Bool.and_eq_true] at h
  exact gck_pos ms 0 h.2.2
theorem inn_low {ms : List Mb} (h : grpB ms = true) {e : Int} (he : e ≤ 0) : innB ms e = false := by
  cases hi : innB ms e with
  | false => rfl
  | true =>
    obtain ⟨m, hm, rfl⟩ := innB_iff.1 hi
    have := grpB_pos h m hm
    omega
theorem grpB_len {ms : List Mb} (h : grpB ms = true) : ms.length ≤ 9 := by
  unfold grpB at h
  simp only [Bool.and_eq_true, decide_eq_true_eq] at h
  exact h.2.1
theorem refP_len (l : List (Int × Int)) : (refP l).length ≤ l.length := by
  rw [refP_is]
  have := (refS_all _ (l.map lnOf) rfl).2.2
  rwa [List.length_map] at this
theorem refP_bd {l : List (Int × Int)} (hf : ∀ x ∈ l, fitsB x.2 = true) (hl : l.length ≤ 8000) : ∀ x ∈ refP l, -8000000000000000000 ≤ x.2 ∧ x.2 ≤ 8000000000000000000 := by
  rw [refP_is]
  refine refS_bd (fun x hx => ?_) (by rw [List.length_map]; exact hl)
  obtain ⟨y, hy, rfl⟩ := List.mem_map.1 hx
  have := hf y hy
  unfold fitsB at this
  simpa [lnOf] using this
theorem refP_snoc (l : List (Int × Int)) (x : Int × Int) : refP (l ++ [x]) = putL (refP l) x.1 x.2 := by
  unfold refP
  rw [List.foldl_append]
  rfl
theorem qSum_snoc (q : Int → Bool) (l : List (Int × Int)) (x : Int × Int) : qSum q (l ++ [x]) = qSum q l + (if q x.1 then x.2 else 0) := by
  rw [qSum_app, qSum_cons]
  simp [qSum, sumI]
theorem refS_sn (ls : List Ln) (x : Ln) : refS (ls ++ [x]) = putL (refS ls) x.acc x.amt := by
  unfold refS
  rw [List.foldl_append]
  rfl
theorem docX_snoc (PS : List Part) (q : Part) : docX (PS ++ [q]) = docX PS ++ q.l := by
  unfold docX
  simp
theorem docX_len {PS : List Part} (h : ∀ q ∈ PS, q.l.length ≤ 800) : (docX PS).length ≤ 800 * PS.length := by
  unfold docX
  have := flat_len8 (LL := PS.map (·.l)) (fun l hl => by obtain ⟨q, hq, rfl⟩ := List.mem_map.1 hl; exact h q hq)
  rwa [List.length_map] at this
theorem sumI_mapsnoc {α : Type} (f : α → Int) (l : List α) (x : α) : sumI ((l ++ [x]).map f) = sumI (l.map f) + f x := by
  rw [List.map_append, sumI_app]
  simp [sumI]
theorem prt_ok (r : List Ac) (ms : List Mb) (J : List Jn) (p : Int) (n : Nat) : ∀ q ∈ prt r ms J p n, PartOk q := fun q hq => by
  obtain ⟨m, _, rfl⟩ := List.mem_map.1 hq
  exact memP_ok r ms J p m
end Go.Proofs.YtgggpaacagbmcaaGreat
