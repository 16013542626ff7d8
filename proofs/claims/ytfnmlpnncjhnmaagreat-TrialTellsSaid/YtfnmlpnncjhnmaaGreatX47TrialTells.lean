/- variorumbook: one more list of balances, one more of pairs. -/
import Derived.Test.YtfnmlpnncjhnmaaGreatX46TrialTells
import Derived.Test.YtfnmlpnncjhnmaaGreatX19TrialTells
import Derived.Test.YtfnmlpnncjhnmaaGreatX22TrialTells
set_option linter.unusedVariables false
set_option linter.unusedSimpArgs false
namespace Go.Proofs.YtfnmlpnncjhnmaaGreat
open Go.RowKit Go.Maps Go.Deep

section
variable {w w' : World} {b base : Nat} {s t p q : Value} {vs us ps qs : List Value} {L M : List (List (Int × Int))}
theorem KeptB2.low (h : KeptB2 p q w b base s t vs us L) : ∀ y, (y = s ∨ y = t ∨ y ∈ vs ∨ y ∈ us) → ∀ k, y.ownBlock = some k → k < w.heap.size := by
  rintro y (rfl | rfl | hy | hy) k hk
  · exact (h.os.lt k hk).2
  · exact (h.ot.lt k hk).2
  · exact (h.lv.lt hy k hk).2
  · exact (h.lu.lt hy k hk).2
theorem KeptP2.low (h : KeptP2 s t w b base p q ps qs M) : ∀ y, (y = p ∨ y = q ∨ y ∈ ps ∨ y ∈ qs) → ∀ k, y.ownBlock = some k → k < w.heap.size := by
  rintro y (rfl | rfl | hy | hy) k hk
  · exact (h.os.lt k hk).2
  · exact (h.ot.lt k hk).2
  · exact (h.lv.lt hy k hk).2
  · exact (h.lu.lt hy k hk).2
end
theorem Lots.kfr {P : Program} {e : TypeId} {α : Type} {T : Ty P e α} {w w' : World} {b base : Nat} {s t s' t' x' : Value} {vs : List Value} {L : List (List α)} (hfr : Free T) (hk : KFr w w' b s t s' t' x') (h : Lots T w base vs L) (hb : b < base) (hs : ∀ v ∈ vs, ApartV s v) (ht : ∀ v ∈ vs, ApartV t v) : Lots T w' base vs L :=
  ⟨h.len, fun i v l hv hl => hk.own hfr (h.own i v l hv hl) hb (hs v (List.mem_of_getElem? hv)) (ht v (List.mem_of_getElem? hv)), h.apart⟩

/-- a Book with n lists of each kind -/
def BothN (w : World) (b n : Nat) : Prop := ∃ s t vs us L p q ps qs M, Both w b (b + 1) s t vs us L p q ps qs M ∧ vs.length = n ∧ ps.length = n ∧ (∀ (i : Nat) (l : List (Int × Int)), L[i]? = some l → l.length ≤ 100000) ∧ ∀ (i : Nat) (l : List (Int × Int)), M[i]? = some l → l.length ≤ 100000
theorem BothN.below {w w' : World} {b n : Nat} (h : BothN w b n) (hb : Below w.heap.size w w') : BothN w' b n := by
  obtain ⟨s, t, vs, us, L, p, q, ps, qs, M, h, r⟩ := h
  exact ⟨s, t, vs, us, L, p, q, ps, qs, M, h.below hb, r⟩
theorem BothN.lt {w : World} {b n : Nat} (h : BothN w b n) : b < w.heap.size := by
  obtain ⟨s, t, vs, us, L, p, q, ps, qs, M, h, r⟩ := h
  exact blk_lt h.kb.cell
/-- the balances are kept, the pairs not yet -/
def Half (w : World) (b n : Nat) (x : Value) (l : List (Int × Int)) (y : Value) (m : List (Int × Int)) : Prop :=
  ∃ s t vs us L p q ps qs M, Both w b (b + 1) s t vs us L p q ps qs M ∧ vs.length = n + 1 ∧ ps.length = n ∧ (∀ (i : Nat) (l : List (Int × Int)), L[i]? = some l → l.length ≤ 100000) ∧ (∀ (i : Nat) (l : List (Int × Int)), M[i]? = some l → l.length ≤ 100000) ∧
    (∃ i : Nat, vs[i]? = some x ∧ L[i]? = some l) ∧ OwnL tPair w (b + 1) y m ∧ m.length ≤ 100000 ∧ Out p q ps qs y ∧ ∀ v, (v = s ∨ v = t ∨ v ∈ vs ∨ v ∈ us) → ApartV v y
theorem few_snoc {L : List (List (Int × Int))} {l : List (Int × Int)} (h : ∀ (i : Nat) (l : List (Int × Int)), L[i]? = some l → l.length ≤ 100000) (hl : l.length ≤ 100000) : ∀ (i : Nat) (m : List (Int × Int)), (L ++ [l])[i]? = some m → m.length ≤ 100000 := by
  intro i m hm
  rw [List.getElem?_append] at hm
  split at hm
  · exact h i m hm
  · rcases List.getElem?_eq_some_iff.1 hm with ⟨hi, rfl⟩
    simp at hi
    have : i - L.length = 0 := by omega
    simpa [this] using hl
theorem mem_snoc {v x : Value} {vs : List Value} (h : v ∈ vs ++ [x]) : v ∈ vs ∨ v = x := by
  rcases List.mem_append.1 h with h | h
  · exact .inl h
  · exact .inr (by simpa using h)

theorem both_bal {w w1 : World} {b n : Nat} {xa : Option Addr} {xc : Nat} {l m : List (Int × Int)} {y : Value} (h : BothN w b n) (hb : Below w.heap.size w w1) (hx : OwnL tBal w1 w.heap.size (.slice xa l.length xc) l) (hy : OwnL tPair w1 w.heap.size y m) (hxy : ApartV (.slice xa l.length xc) y) (hl : l.length ≤ 100000) (hm : m.length ≤ 100000) (hn : n ≤ 100) :
    Calls Tryz.prog 13 #[.pointer (some ⟨b, 0, none⟩), .slice xa l.length xc] w1 fun e w2 => e = .returned (.tuple #[]) ∧ But (fun k => b ≤ k) w1 w2 ∧ Half w2 b n (.slice xa l.length xc) l y m := by
  obtain ⟨s, t, vs, us, L, p, q, ps, qs, M, h, hvn, hpn, hL, hM⟩ := h
  have hbs : b + 1 ≤ w.heap.size := blk_lt h.kb.cell
  have h1 := h.below hb
  have hfx : ∀ v, (v = s ∨ v = t ∨ v ∈ vs ∨ v ∈ us) → ApartV v (.slice xa l.length xc) := fun v hv => (apart_new (fun k hk => (hx.lt k hk).1) (h.kb.low v hv)).symm
  have hfy : ∀ v, (v = s ∨ v = t ∨ v ∈ vs ∨ v ∈ us) → ApartV v y := fun v hv => (apart_new (fun k hk => (hy.lt k hk).1) (h.kb.low v hv)).symm
  have hgx : ∀ v, (v = p ∨ v = q ∨ v ∈ ps ∨ v ∈ qs) → ApartV (.slice xa l.length xc) v := fun v hv => apart_new (fun k hk => (hx.lt k hk).1) (h.kp.low v hv)
  have hgy : ∀ v, (v = p ∨ v = q ∨ v ∈ ps ∨ v ∈ qs) → ApartV v y := fun v hv => (apart_new (fun k hk => (hy.lt k hk).1) (h.kp.low v hv)).symm
  refine (kbal2_any h1.kb (hx.mono hbs) (hfx _ (.inl rfl)) (hfx _ (.inr (.inl rfl))) (fun v hv => hfx v (.inr (.inr (.inl hv)))) (fun v hv => hfx v (.inr (.inr (.inr hv)))) (by omega) hl (Nat.le_trans hbs hb.size)).mono ?_
  rintro e w2 ⟨rfl, hbu, s', t', x', hk, hf⟩
  have hylow : ∀ k, y.ownBlock = some k → k < w1.heap.size := fun k hk => (hy.lt k hk).2
  have hplow : ∀ v, (v = p ∨ v = q ∨ v ∈ ps ∨ v ∈ qs) → ∀ k, v.ownBlock = some k → k < w1.heap.size := h1.kp.low
  have hS : ∀ v, (v = p ∨ v = q ∨ v ∈ ps ∨ v ∈ qs) → ApartV s v := fun v hv => h.cr _ (.inl rfl) _ hv
  have hT : ∀ v, (v = p ∨ v = q ∨ v ∈ ps ∨ v ∈ qs) → ApartV t v := fun v hv => h.cr _ (.inr (.inl rfl)) _ hv
  refine ⟨rfl, hbu, s', t', vs ++ [.slice xa l.length xc], us ++ [x'], L ++ [l], p, q, ps, qs, M, ⟨hk, ⟨hk.cell, h.kp.bb, hf.own pairV_Free h1.kp.os h.kp.bb (hS _ (.inl rfl)) (hT _ (.inl rfl)), hf.own pairV_Free h1.kp.ot h.kp.bb (hS _ (.inr (.inl rfl))) (hT _ (.inr (.inl rfl))), h1.kp.lv.kfr pair_Free hf h.kp.bb (fun v hv => hS v (.inr (.inr (.inl hv)))) (fun v hv => hT v (.inr (.inr (.inl hv)))), h1.kp.lu.kfr pair_Free hf h.kp.bb (fun v hv => hS v (.inr (.inr (.inr hv)))) (fun v hv => hT v (.inr (.inr (.inr hv)))), h.kp.st, h.kp.sv, h.kp.su, h.kp.tv, h.kp.tu, h.kp.vu⟩, fun v hv z hz => ?_⟩, by simp [hvn], hpn, few_snoc hL hl, hM, ⟨vs.length, by simp, by rw [h.kb.lv.len]; simp⟩, hf.own pair_Free (hy.mono hbs) h.kp.bb (hfy _ (.inl rfl)) (hfy _ (.inr (.inl rfl))), hm, ⟨hgy _ (.inl rfl), hgy _ (.inr (.inl rfl)), fun v hv => hgy v (.inr (.inr (.inl hv))), fun v hv => hgy v (.inr (.inr (.inr hv)))⟩, fun v hv => ?_⟩
  · have hfar := hf.far (hplow z hz) (hS z hz) (hT z hz)
    rcases hv with rfl | rfl | hv | hv
    · exact hfar.1
    · exact hfar.2.1
    · rcases mem_snoc hv with hv | rfl
      · exact h.cr v (.inr (.inr (.inl hv))) z hz
      · exact hgx z hz
    · rcases mem_snoc hv with hv | rfl
      · exact h.cr v (.inr (.inr (.inr hv))) z hz
      · exact hfar.2.2
  · have hfar := hf.far hylow (hfy _ (.inl rfl)) (hfy _ (.inr (.inl rfl)))
    rcases hv with rfl | rfl | hv | hv
    · exact hfar.1
    · exact hfar.2.1
    · rcases mem_snoc hv with hv | rfl
      · exact hfy v (.inr (.inr (.inl hv)))
      · exact hxy
    · rcases mem_snoc hv with hv | rfl
      · exact hfy v (.inr (.inr (.inr hv)))
      · exact hfar.2.2

theorem both_pair {w : World} {b n : Nat} {x : Value} {l m : List (Int × Int)} {ya : Option Addr} {yc : Nat} (h : Half w b n x l (.slice ya m.length yc) m) (hn : n ≤ 100) :
    Calls Tryz.prog 14 #[.pointer (some ⟨b, 0, none⟩), .slice ya m.length yc] w fun e w' => e = .returned (.tuple #[]) ∧ But (fun k => b ≤ k) w w' ∧ BothN w' b (n + 1) ∧ OwnL tBal w' (b + 1) x l ∧ OwnL tPair w' (b + 1) (.slice ya m.length yc) m := by
  obtain ⟨s, t, vs, us, L, p, q, ps, qs, M, h, hvn, hpn, hL, hM, ⟨i, hi1, hi2⟩, hy, hm, ho, hvy⟩ := h
  refine (kpair2_any h.kp hy ho.1 ho.2.1 ho.2.2.1 ho.2.2.2 (by omega) hm (blk_lt h.kb.cell)).mono ?_
  rintro e w' ⟨rfl, hbu, p', q', y', hk, hf⟩
  have hP : ∀ v, (v = s ∨ v = t ∨ v ∈ vs ∨ v ∈ us) → ApartV p v := fun v hv => ApartV.symm (h.cr _ hv _ (.inl rfl))
  have hQ : ∀ v, (v = s ∨ v = t ∨ v ∈ vs ∨ v ∈ us) → ApartV q v := fun v hv => ApartV.symm (h.cr _ hv _ (.inr (.inl rfl)))
  have hB : KeptB2 p' q' w' b (b + 1) s t vs us L := ⟨hk.cell, h.kb.bb, hf.own balV_Free h.kb.os h.kb.bb (hP _ (.inl rfl)) (hQ _ (.inl rfl)), hf.own balV_Free h.kb.ot h.kb.bb (hP _ (.inr (.inl rfl))) (hQ _ (.inr (.inl rfl))), h.kb.lv.kfr bal_Free hf h.kb.bb (fun v hv => hP v (.inr (.inr (.inl hv)))) (fun v hv => hQ v (.inr (.inr (.inl hv)))), h.kb.lu.kfr bal_Free hf h.kb.bb (fun v hv => hP v (.inr (.inr (.inr hv)))) (fun v hv => hQ v (.inr (.inr (.inr hv)))), h.kb.st, h.kb.sv, h.kb.su, h.kb.tv, h.kb.tu, h.kb.vu⟩
  refine ⟨rfl, hbu, ⟨s, t, vs, us, L, p', q', ps ++ [.slice ya m.length yc], qs ++ [y'], M ++ [m], ⟨hB, hk, fun v hv z hz => ?_⟩, hvn, by simp [hpn], hL, few_snoc hM hm⟩, hB.lv.own i _ _ hi1 hi2, hk.lv.own ps.length _ _ (by simp) (by rw [h.kp.lv.len]; simp)⟩
  have hfar := hf.far (h.kb.low v hv) (hP v hv) (hQ v hv)
  rcases hz with rfl | rfl | hz | hz
  · exact hfar.1.symm
  · exact hfar.2.1.symm
  · rcases mem_snoc hz with hz | rfl
    · exact h.cr v hv z (.inr (.inr (.inl hz)))
    · exact hvy v hv
  · rcases mem_snoc hz with hz | rfl
    · exact h.cr v hv z (.inr (.inr (.inr hz)))
    · exact hfar.2.2.symm
theorem kapart_both {w : World} {b n : Nat} (h : BothN w b n) (hn : n ≤ 1000) : Calls Tryz.prog 19 #[.pointer (some ⟨b, 0, none⟩)] w fun e w' => e = .returned (.bool true) ∧ But (fun k => b ≤ k) w w' := by
  obtain ⟨s, t, vs, us, L, p, q, ps, qs, M, h, hvn, hpn, hL, hM⟩ := h
  exact kapart2_any h (by omega) (by omega) hL hM (blk_lt h.kb.cell)
/-- an empty Book -/
theorem both_new {w : World} {b : Nat} (h : w.heap[b]? = some (.cells (bookBP (.slice none 0 0) (.slice none 0 0) (.slice none 0 0) (.slice none 0 0)) 48 (0, 0))) : BothN w b 0 := by
  have hB : Lots tBal w (b + 1) [] [] := ⟨rfl, fun i v l hv _ => by simp at hv, fun i j u v _ hu _ => by simp at hu⟩
  have hP : Lots tPair w (b + 1) [] [] := ⟨rfl, fun i v l hv _ => by simp at hv, fun i j u v _ hu _ => by simp at hu⟩
  refine ⟨_, _, [], [], [], _, _, [], [], [], ⟨⟨h, Nat.lt_succ_self b, OwnL.nil _ _, OwnL.nil _ _, hB, hB, apart_none _, by simp, by simp, by simp, by simp, by simp⟩, ⟨h, Nat.lt_succ_self b, OwnL.nil _ _, OwnL.nil _ _, hP, hP, apart_none _, by simp, by simp, by simp, by simp, by simp⟩, fun x hx y hy => ?_⟩, rfl, rfl, by simp, by simp⟩
  rcases hx with rfl | rfl | hx | hx
  · exact .inl rfl
  · exact .inl rfl
  · cases hx
  · cases hx
end Go.Proofs.YtfnmlpnncjhnmaaGreat


/- Charts: put, New. -/
set_option linter.unusedVariables false
set_option linter.unusedSimpArgs false
namespace Go.Proofs.YtfnmlpnncjhnmaaGreat
open Go.RowKit Go.Maps Go.Deep

theorem known_any (k : Int) (w : World) {b : Bool} (h : (decide (1 ≤ k) && decide (k ≤ 5)) = b) : Calls Tryz.prog 175 #[.int .i64 k] w fun e w' => e = .returned (.bool b) ∧ w' = w := by
  have hcs : (b = true ∧ 1 ≤ k ∧ k ≤ 5) ∨ (b = false ∧ (k < 1 ∨ 1 ≤ k ∧ 5 < k)) := by
    cases b
    · right; simp at h; exact ⟨rfl, by omega⟩
    · left; simp at h; exact ⟨rfl, h⟩
  rcases hcs with ⟨rfl, h1, h2⟩ | ⟨rfl, h1 | ⟨h1, h2⟩⟩
  all_goals
    clear h
    go_enter Tryz.func175, Tryz.ntmps175
    go_wp2
    go_ret
    refine ⟨?_, rfl⟩
    first | rfl | (simp; omega)
theorem asked_any (k : Int) (w : World) {b : Bool} (h : (decide (1 ≤ k) && decide (k ≤ 5)) = b) : Calls Tryz.prog 174 #[.func (.func 175) #[] #[], .int .i64 k] w fun e w' => e = .returned (.bool b) ∧ w' = w := by
  have HC := Lib.hid (known_any k w h)
  clear h
  go_enter Tryz.func174, Tryz.ntmps174
  go_wp2_with fail
  refine HC.out.mono ?_
  rintro e w1 ⟨rfl, rfl⟩
  go_wp2_with fail
  go_ret
  exact ⟨rfl, rfl⟩

theorem Below.onlyA {B b : Nat} {w w2 w3 : World} (h : Below B w w2) (ho : OnlyB w2 w3 b) (hb : B ≤ b) (hB : B ≤ w2.heap.size) : Below B w w3 := h.grown ho.grown hB (fun k e => by cases e; exact hb)
def PutC (w : World) (B g : Nat) (l : List Ac) (e : Ending) (w' : World) : Prop :=
  e = .returned (.int .i64 0) ∧ ∃ mb', ChartAt w' g mb' l ∧ (∀ b, mb' = some b → B ≤ b) ∧ Below B w w'

theorem codes_snoc {l : List Ac} {x : Ac} (h : findA l x.code = none) : ins (codesOf l) x.code x = codesOf (l ++ [x]) := by
  rw [ins_new _ _ _ (by rw [look_codes]; exact h)]
  unfold codesOf
  rw [List.map_append]
  rfl

set_option maxHeartbeats 4000000 in
set_option maxRecDepth 100000 in
theorem put_any {w : World} {g B : Nat} {mb : Option Nat} {l : List Ac} (h : ChartAt w g mb l) (x : Ac) (hrow : rowB x = true) (hnew : findA l x.code = none) (hk1 : I64 x.code) (hk2 : I64 x.kind) (hBg : B ≤ g) (hBm : ∀ b, mb = some b → B ≤ b) :
    Calls Tryz.prog 159 #[.pointer (some ⟨g, 0, none⟩), acv x] w (PutC w B g (l ++ [x])) := by
  have HH := Lib.hid h
  have HNEW := Lib.hid hnew
  have HK1 := Lib.hid hk1
  have HINS := Lib.hid (codes_snoc hnew)
  have HBM := Lib.hid hBm
  have hgl := blk_lt h.cell
  obtain ⟨xc, xk, xr⟩ := x
  have hrow' : 1 ≤ xc ∧ xc ≤ 9999 ∧ 1 ≤ xk ∧ xk ≤ 5 := by
    unfold rowB at hrow
    simp at hrow
    omega
  obtain ⟨r1, r2, r3, r4⟩ := hrow'
  simp only at HNEW HK1 HINS
  have HB := Lib.hid ((Below.refl w.heap.size w).alloc (Nat.le_refl _) (.cells #[.int .i64 xc, .int .i64 xk, .bool xr] 83))
  have HZ := Lib.hid (blk_new w (.cells #[.int .i64 xc, .int .i64 xk, .bool xr] 83))
  clear h hnew hk1 hk2 hrow hBm
  go_enter Tryz.func159, Tryz.ntmps159
  go_wp2_with fail
  refine (asked_any xk _ (b := true) (by simp; omega)).mono ?_
  rintro e w1 ⟨rfl, rfl⟩
  go_wp2_with fail
  refine abs_world (S := fun wx => wx.heap[w.heap.size]? = some (.cells #[.int .i64 xc, .int .i64 xk, .bool xr] 83 (0, 0)) ∧ Below w.heap.size w wx) ?_ ⟨HZ.out, HB.out⟩
  rintro wx ⟨hzx, hbx⟩
  have HZX := Lib.hid hzx
  have HBX := Lib.hid hbx
  have HCX := Lib.hid (HH.out.below hbx)
  have hzc := blk_cells hzx
  have hgc := blk_cells HCX.out.cell
  have hgf := blk_frz HCX.out.cell
  have hzl := blk_lt hzx
  have hgx := blk_lt HCX.out.cell
  have hne : w.heap.size ≠ g := by omega
  have hl1 := lookA HCX.out HK1.out wx.drew (fun b _ => rfl)
  have hl2 := lookA HCX.out HK1.out (wx.drew.alloc (.cells #[.int .i64 0, .int .i64 0, .bool false] 83)) (fun b hb => Below.heap_alloc wx.drew _ b hb)
  have hl3 := lookA HCX.out HK1.out (wx.alloc (.cells #[.int .i64 0, .int .i64 0, .bool false] 83)).drew (fun b hb => Below.heap_alloc wx _ b hb)
  have hd : acD l xc = ac0 := by unfold acD; rw [HNEW.out]; rfl
  rw [HNEW.out, hd] at hl1 hl2 hl3
  simp only [Option.isSome_none] at hl1 hl2 hl3
  clear hzx hbx HB HZ hd
  go_region_law (fail)
  all_goals
    have hnil := fun W m => run_eql_map_nil (P := Tryz.prog) W 216 _ _ m Tryz.underlying216
    have hmm := @run_makeMap Tryz.prog
    have HBW := Lib.hid (HBX.out.mono (Nat.le_trans hBg (Nat.le_of_lt hgl)))
    cases mb with
    | none =>
      go_wp2_with fail
      refine abs_world (S := (fun wz => ∃ b', wz.heap[g]? = some (.cells #[.map (some b')] 218 (0, 0)) ∧ MapIs mInt acv wz b' (codesOf l) ∧ b' ≠ g ∧ B ≤ b' ∧ wz.heap[w.heap.size]? = some (.cells #[.int .i64 xc, .int .i64 xk, .bool xr] 83 (0, 0)) ∧ Below B w wz)) ?_ ⟨wx.heap.size + 1, blk_alloc (blk_alloc (blk_set HCX.out.cell 0 _) _) _, by rw [HCX.out.none rfl]; have h9 : MapIs mInt acv (((wx.setCell { block := g, off := 0 } (Value.map (some (wx.heap.size + 1)))).alloc (.cells #[.int .i64 ac0.code, .int .i64 ac0.kind, .bool ac0.ret] 83)).alloc (.map #[] 0)) (wx.heap.size + 1) (codesOf []) := (by have := MapIs.new mInt acv ((wx.setCell { block := g, off := 0 } (Value.map (some (wx.heap.size + 1)))).alloc (.cells #[.int .i64 ac0.code, .int .i64 ac0.kind, .bool ac0.ret] 83)); simpa [codesOf] using this); exact h9.keep rfl, by omega, by omega, blk_alloc (blk_alloc (blk_far HZX.out (p := ⟨g, 0, none⟩) hne _) _) _, (((HBW.out.setCell hBg _).alloc (by simp; omega) _).alloc (by simp; omega) _).drew⟩
      rintro wz ⟨b', hzg, hzm, hzb, hzB, hza, hzB2⟩
      have HZG := Lib.hid hzg
      have HZM := Lib.hid hzm
      have HZB := Lib.hid hzB2
      have HZA := Lib.hid hza
      clear hzc hgc hgf hl1 hl2 hl3
      have hzc := blk_cells hza
      have hgc := blk_cells hzg
      clear hzg hzm hza hzB2 hnil hmm
      refine still_tail 7 (by kernel_rfl) (by kernel_rfl) ?_
      simp only [List.take_succ_cons, List.take_zero, List.drop_succ_cons, List.drop_zero]
      repeat still_step
      try refine wpStill_nil ?_
      change wpList _ _ _ _ _ _
      refine wp_update (M := mInt) (ev := acv) rfl _ _ _ 216 rfl _ Tryz.underlying216 b' (codesOf l) xc ⟨xc, xk, xr⟩ rfl rfl rfl (HZM.out.keep rfl) HK1.out ?_
      intro w2 hm2 ho2
      have HF : Hid (PutC w B g (l ++ [⟨xc, xk, xr⟩]) (.returned (.int .i64 0)) w2) := Lib.hid ⟨rfl, some b', ⟨(ho2.heap (k := g) (Ne.symm hzb)).trans HZG.out, (fun e => by cases e), (fun b e => by injection e with e; subst e; rw [← HINS.out]; exact ⟨hm2, hzb⟩)⟩, (fun b e => by injection e with e; subst e; exact hzB), Below.onlyA (Below.drew HZB.out) ho2 hzB (Nat.le_trans hzB (Nat.le_of_lt HZM.out.lt))⟩
      clear hm2 ho2
      go_wp2_with fail
      go_ret
      exact HF.out
    | some b =>
      go_wp2_with fail
      refine abs_world (S := (fun wz => ∃ b', wz.heap[g]? = some (.cells #[.map (some b')] 218 (0, 0)) ∧ MapIs mInt acv wz b' (codesOf l) ∧ b' ≠ g ∧ B ≤ b' ∧ wz.heap[w.heap.size]? = some (.cells #[.int .i64 xc, .int .i64 xk, .bool xr] 83 (0, 0)) ∧ Below B w wz)) ?_ ⟨b, blk_alloc HCX.out.cell _, (HCX.out.some b rfl).1.keep (Below.heap_alloc wx _ b (HCX.out.some b rfl).1.lt), (HCX.out.some b rfl).2, HBM.out b rfl, blk_alloc HZX.out _, (HBW.out.alloc (by omega) _).drew⟩
      rintro wz ⟨b', hzg, hzm, hzb, hzB, hza, hzB2⟩
      have HZG := Lib.hid hzg
      have HZM := Lib.hid hzm
      have HZB := Lib.hid hzB2
      have HZA := Lib.hid hza
      clear hzc hgc hgf hl1 hl2 hl3
      have hzc := blk_cells hza
      have hgc := blk_cells hzg
      clear hzg hzm hza hzB2 hnil hmm
      refine still_tail 7 (by kernel_rfl) (by kernel_rfl) ?_
      simp only [List.take_succ_cons, List.take_zero, List.drop_succ_cons, List.drop_zero]
      repeat still_step
      try refine wpStill_nil ?_
      change wpList _ _ _ _ _ _
      refine wp_update (M := mInt) (ev := acv) rfl _ _ _ 216 rfl _ Tryz.underlying216 b' (codesOf l) xc ⟨xc, xk, xr⟩ rfl rfl rfl (HZM.out.keep rfl) HK1.out ?_
      intro w2 hm2 ho2
      have HF : Hid (PutC w B g (l ++ [⟨xc, xk, xr⟩]) (.returned (.int .i64 0)) w2) := Lib.hid ⟨rfl, some b', ⟨(ho2.heap (k := g) (Ne.symm hzb)).trans HZG.out, (fun e => by cases e), (fun b e => by injection e with e; subst e; rw [← HINS.out]; exact ⟨hm2, hzb⟩)⟩, (fun b e => by injection e with e; subst e; exact hzB), Below.onlyA (Below.drew HZB.out) ho2 hzB (Nat.le_trans hzB (Nat.le_of_lt HZM.out.lt))⟩
      clear hm2 ho2
      go_wp2_with fail
      go_ret
      exact HF.out
end Go.Proofs.YtfnmlpnncjhnmaaGreat
