/- group: result, walked. -/
import Derived.Test.YtgggpaacagbmcaaGreatX36GroupInner
import Derived.Test.YtgggpaacagbmcaaGreatX35GroupInner
set_option linter.unusedVariables false
set_option linter.unusedSimpArgs false
namespace Go.Proofs.YtgggpaacagbmcaaGreat
open Go.RowKit Go.Maps Go.Deep

def errN (eB e5 e6 e7 e1 e2 e3 : Int) : Int := if eB != 0 then eB else if e5 != 0 then e5 else if e6 != 0 then e6 else if e7 != 0 then e7 else if e1 != 0 then e1 else if e2 != 0 then e2 else e3
theorem resT_is {r : List Ac} {PS : List Part} {L : List (Int × Int)} {eB pl e5 ou e6 ot e7 ow e1 od e2 on e3 : Int} (hB : plusT ((PS.map (·.l)).flatten ++ []) = (L, eB)) (h5 : addM (PS.map (·.plug)) = (pl, e5)) (h6 : addM (PS.map (·.out)) = (ou, e6)) (h7 : addM (PS.map (·.oth)) = (ot, e7))
    (h1 : addM ((L.filter (pickB r [1])).map (·.2)) = (ow, e1)) (h2 : addM (negA (L.filter (pickB r [2]))) = (od, e2)) (h3 : addM [ow, -od, ot] = (on, e3)) :
    resT r PS = if errN eB e5 e6 e7 e1 e2 e3 != 0 then (grp0, errN eB e5 e6 e7 e1 e2 e3) else (⟨L, pl, ou, ot, ow, od, on⟩, 0) := by
  have hE : putE r PS = errN eB e5 e6 e7 e1 e2 e3 := by
    unfold putE
    simp only [hB, h5, h6, h7, h1, h2, h3]
    rfl
  have hG : putG r PS = ⟨L, pl, ou, ot, ow, od, on⟩ := by
    unfold putG
    simp only [hB, h5, h6, h7, h1, h2, h3]
  unfold resT
  rw [hE, hG]
def sel5 {α : Type} (a b c d e : α) : Nat → α
  | 0 => a
  | 1 => b
  | 2 => c
  | 3 => d
  | _ => e
theorem err_at {eB e5 e6 e7 e1 e2 e3 : Int} {n : Nat} (hn : n < 5) (hB : eB = 0) (h : ∀ i, i < n → sel5 e5 e6 e7 e1 e2 i = 0) (hne : sel5 e5 e6 e7 e1 e2 n ≠ 0) : errN eB e5 e6 e7 e1 e2 e3 = sel5 e5 e6 e7 e1 e2 n := by
  have hc : n = 0 ∨ n = 1 ∨ n = 2 ∨ n = 3 ∨ n = 4 := by omega
  unfold errN
  subst hB
  rcases hc with rfl | rfl | rfl | rfl | rfl
  · simp only [sel5] at hne ⊢
    simp [hne]
  · have a0 := h 0 (by omega)
    simp only [sel5] at hne a0 ⊢
    simp [hne, a0]
  · have a0 := h 0 (by omega)
    have a1 := h 1 (by omega)
    simp only [sel5] at hne a0 a1 ⊢
    simp [hne, a0, a1]
  · have a0 := h 0 (by omega)
    have a1 := h 1 (by omega)
    have a2 := h 2 (by omega)
    simp only [sel5] at hne a0 a1 a2 ⊢
    simp [hne, a0, a1, a2]
  · have a0 := h 0 (by omega)
    have a1 := h 1 (by omega)
    have a2 := h 2 (by omega)
    have a3 := h 3 (by omega)
    simp only [sel5] at hne a0 a1 a2 a3 ⊢
    simp [hne, a0, a1, a2, a3]
theorem err_last {eB e5 e6 e7 e1 e2 e3 : Int} (hB : eB = 0) (h : ∀ i, i < 5 → sel5 e5 e6 e7 e1 e2 i = 0) : errN eB e5 e6 e7 e1 e2 e3 = e3 := by
  have a0 := h 0 (by omega)
  have a1 := h 1 (by omega)
  have a2 := h 2 (by omega)
  have a3 := h 3 (by omega)
  have a4 := h 4 (by omega)
  simp only [sel5] at a0 a1 a2 a3 a4
  unfold errN
  simp [hB, a0, a1, a2, a3, a4]
/-- the result's cells behind some of the sums -/
def rC (lb : Value) (pl ou ot ow od : Int) (n : Nat) : Array Value := #[lb, .int .i64 (if 0 < n then pl else 0), .int .i64 (if 1 < n then ou else 0), .int .i64 (if 2 < n then ot else 0), .int .i64 (if 3 < n then ow else 0), .int .i64 (if 4 < n then od else 0), .int .i64 0]
theorem rC_succ (lb : Value) (pl ou ot ow od : Int) {n : Nat} (hn : n < 5) : (rC lb pl ou ot ow od n).setIfInBounds (n + 1) (.int .i64 (sel5 pl ou ot ow od n)) = rC lb pl ou ot ow od (n + 1) := by
  have hc : n = 0 ∨ n = 1 ∨ n = 2 ∨ n = 3 ∨ n = 4 := by omega
  rcases hc with rfl | rfl | rfl | rfl | rfl <;> rfl
/-- whole numbers in a block -/
theorem sl_ints {w : World} {b : Nat} (xs : List Int) (hb : w.heap[b]? = some (.cells (xs.map (Value.int .i64)).toArray 3 (0, 0))) (hx : ∀ x ∈ xs, I64 x) : Sl tInt w (fun _ => True) (some ⟨b, 0, none⟩) xs := by
  intro i x hi
  refine ⟨_, [.int .i64 x], rfl, trivial, blk_lt hb, fun j v hv => ?_, rfl, hx x (List.mem_of_getElem? hi)⟩
  cases j with
  | succ j => simp at hv
  | zero =>
    simp at hv
    subst hv
    have : ((⟨b, 0, none⟩ : Addr).add (i * tInt.n)).add 0 = ⟨b, i, none⟩ := by
      rw [show tInt.n = 1 from rfl, Go.Addr.add_add, Nat.mul_one, Nat.add_zero]
      unfold Addr.add
      split <;> simp_all
    rw [this, blk_cells hb]
    simp [hi]
/-- what the two picks leave -/
structure PickF (w w3 : World) (X1 X2 : List (Int × Int)) (xa : Option Addr) (xc : Nat) (ya : Option Addr) (yc : Nat) : Prop where
  sm : SM w w3
  s1 : OwnL tBal w3 w.heap.size (.slice xa X1.length xc) X1
  s2 : OwnL tBal w3 w.heap.size (.slice ya X2.length yc) X2

set_option maxHeartbeats 16000000 in
set_option maxRecDepth 100000 in
theorem grResult_any {w0 w : World} {W c g : Nat} {p : Int} {ma : Option Addr} {ms : List Mb} {mc : Nat} {x4 x5 x6 x7 : Value} {vs : List Value} {PS : List Part} (hS : WSt w0 w W c g p ma ms mc x4 x5 x6 x7 vs (PS.map (·.l)) (PS.map (·.plug)) (PS.map (·.out)) (PS.map (·.oth)))
    {mb : Option Nat} {r : List Ac} (hch : ChartAt w0 c mb r) (hlen : ∀ P ∈ PS, P.l.length ≤ 800) (hn : PS.length ≤ 100) :
    Calls Tryz.prog 30 #[.pointer (some ⟨W, 0, none⟩)] w (GrpPost w (resT r PS)) := by
  obtain ⟨⟨L, eB⟩, hB⟩ : ∃ t, plusT ((PS.map (·.l)).flatten ++ []) = t := ⟨_, rfl⟩
  obtain ⟨⟨pl, e5⟩, h5⟩ : ∃ t, addM (PS.map (·.plug)) = t := ⟨_, rfl⟩
  obtain ⟨⟨ou, e6⟩, h6⟩ : ∃ t, addM (PS.map (·.out)) = t := ⟨_, rfl⟩
  obtain ⟨⟨ot, e7⟩, h7⟩ : ∃ t, addM (PS.map (·.oth)) = t := ⟨_, rfl⟩
  obtain ⟨⟨ow, e1⟩, h1⟩ : ∃ t, addM ((L.filter (pickB r [1])).map (·.2)) = t := ⟨_, rfl⟩
  obtain ⟨⟨od, e2⟩, h2⟩ : ∃ t, addM (negA (L.filter (pickB r [2]))) = t := ⟨_, rfl⟩
  obtain ⟨⟨on, e3⟩, h3⟩ : ∃ t, addM [ow, -od, ot] = t := ⟨_, rfl⟩
  have HRES := Lib.hid (resT_is hB h5 h6 h7 h1 h2 h3)
  have HFI : Hid (fitsB ow = true ∧ fitsB ot = true ∧ fitsB od = true) := Lib.hid ⟨by have := addM_fit ((L.filter (pickB r [1])).map (·.2)); rw [h1] at this; exact this, by have := addM_fit (PS.map (·.oth)); rw [h7] at this; exact this, by have := addM_fit (negA (L.filter (pickB r [2]))); rw [h2] at this; exact this⟩
  obtain ⟨RT, hRT⟩ : ∃ t, resT r PS = t := ⟨_, rfl⟩
  rw [hRT] at HRES ⊢
  obtain ⟨hLf, hLl, hLe⟩ := plus_fits hB
  have hL8 : L.length ≤ 80000 := by
    refine Nat.le_trans hLl ?_
    rw [List.append_nil]
    have := flat_len8 (LL := PS.map (·.l)) (fun l hl => by obtain ⟨P, hP, rfl⟩ := List.mem_map.1 hl; exact hlen P hP)
    rw [List.length_map] at this
    omega
  have HBAL := Lib.hid (grBalances_any hS (fun l hl => by obtain ⟨P, hP, rfl⟩ := List.mem_map.1 hl; exact hlen P hP) (by rw [List.length_map]; exact hn))
  rw [hB] at HBAL
  obtain ⟨T5, hT5⟩ : ∃ t, PS.map (·.plug) = t := ⟨_, rfl⟩
  obtain ⟨T6, hT6⟩ : ∃ t, PS.map (·.out) = t := ⟨_, rfl⟩
  obtain ⟨T7, hT7⟩ : ∃ t, PS.map (·.oth) = t := ⟨_, rfl⟩
  have l5 : T5.length ≤ 100 := by rw [← hT5, List.length_map]; exact hn
  have l6 : T6.length ≤ 100 := by rw [← hT6, List.length_map]; exact hn
  have l7 : T7.length ≤ 100 := by rw [← hT7, List.length_map]; exact hn
  rw [hT5] at hS h5
  rw [hT6] at hS h6
  rw [hT7] at hS h7
  obtain ⟨a5, c5, rfl, -, -, hs5⟩ := hS.o5.slice
  obtain ⟨a6, c6, rfl, -, -, hs6⟩ := hS.o6.slice
  obtain ⟨a7, c7, rfl, -, -, hs7⟩ := hS.o7.slice
  have hW := hS.cell
  have hbel := hS.bel
  have HS5 := Lib.hid hs5
  have HS6 := Lib.hid hs6
  have HS7 := Lib.hid hs7
  have H5 := Lib.hid h5
  have H6 := Lib.hid h6
  have H7 := Lib.hid h7
  have H1 := Lib.hid h1
  have H2 := Lib.hid h2
  have H3 := Lib.hid h3
  have HLF := Lib.hid hLf
  have HLE := Lib.hid hLe
  have HCH := Lib.hid (hch.below hbel)
  have HWA := Lib.hid (blk_alloc hW (.cells #[.slice none 0 0, .int .i64 0, .int .i64 0, .int .i64 0, .int .i64 0, .int .i64 0, .int .i64 0] 51))
  have HZ0 := Lib.hid (blk_new w (.cells #[.slice none 0 0, .int .i64 0, .int .i64 0, .int .i64 0, .int .i64 0, .int .i64 0, .int .i64 0] 51))
  have HB0 := Lib.hid ((Below.refl w.heap.size w).alloc (Nat.le_refl _) (.cells #[.slice none 0 0, .int .i64 0, .int .i64 0, .int .i64 0, .int .i64 0, .int .i64 0, .int .i64 0] 51))
  have HBAL2 : Hid (Calls Tryz.prog 98 #[.pointer (some ⟨W, 0, none⟩)] (w.alloc (.cells #[.slice none 0 0, .int .i64 0, .int .i64 0, .int .i64 0, .int .i64 0, .int .i64 0, .int .i64 0] 51)) (PlusPost (w.alloc (.cells #[.slice none 0 0, .int .i64 0, .int .i64 0, .int .i64 0, .int .i64 0, .int .i64 0, .int .i64 0] 51)) (L, eB))) := Lib.hid (by
    have := grBalances_any (hS.call HB0.out) (fun l hl => by obtain ⟨P, hP, rfl⟩ := List.mem_map.1 hl; exact hlen P hP) (by rw [List.length_map]; exact hn)
    rw [hB] at this
    exact this)
  clear hS hch hlen hB h5 h6 h7 h1 h2 h3 hLf hLl hLe hs5 hs6 hs7 hT5 hT6 hT7 hRT hW hbel HBAL
  go_enter Tryz.func30, Tryz.ntmps30
  go_wp2_with fail
  refine HBAL2.out.mono ?_
  rintro en1 w1 ⟨v1, rfl, ho, hb⟩
  have HW1 := Lib.hid (blk_below HWA.out hb)
  have HZ1 := Lib.hid (blk_below HZ0.out hb)
  have HB1 := Lib.hid (belows_then HB0.out HB0.out.size hb)
  obtain ⟨la, lc, rfl, -, -, hls⟩ := ho.slice
  have HOL : Hid (OwnL tBal w1 w.heap.size (.slice la L.length lc) L) := Lib.hid (ho.mono (by simp))
  have hl1 := blk_lt HZ1.out
  have hc1 := blk_cells HZ1.out
  have hf1 := blk_frz HZ1.out
  clear ho hb hls HBAL2 HWA HZ0 HB0
  rcases HLE.out with rfl | rfl
  · go_wp2_with fail
    obtain ⟨R, hR⟩ : ∃ R, w1.heap.size = R := ⟨_, rfl⟩
    refine abs_world (S := fun wx => wx.heap[w1.heap.size]? = some (.cells (rC (.slice la L.length lc) pl ou ot ow od 0) 51 (0, 0)) ∧ wx.heap[W]? = some (.cells (wkC c g p ma ms mc x4 (.slice a5 T5.length c5) (.slice a6 T6.length c6) (.slice a7 T7.length c7)) 96 (0, 0)) ∧ wx.heap[w.heap.size]? = some (.cells #[.slice none 0 0, .int .i64 0, .int .i64 0, .int .i64 0, .int .i64 0, .int .i64 0, .int .i64 0] 51 (0, 0)) ∧ Below w.heap.size w wx ∧ OwnL tBal wx w.heap.size (.slice la L.length lc) L) ?_ ⟨blk_new w1 _, blk_alloc HW1.out _, blk_alloc HZ1.out _, HB1.out.alloc HB1.out.size _, HOL.out.alloc _⟩
    rw [hR]
    have hRW : W < R := by rw [← hR]; exact blk_lt HW1.out
    have hRZ : w.heap.size < R := by rw [← hR]; exact blk_lt HZ1.out
    clear HW1 HZ1 HB1 HOL hl1 hc1 hf1 hR
    rintro wx ⟨hr, hw, hz, hb, ho⟩
    have HR := Lib.hid hr
    have HW := Lib.hid hw
    have HZ := Lib.hid hz
    have HB := Lib.hid hb
    have HO := Lib.hid ho
    have hwl := blk_lt hw
    have hrl := blk_lt hr
    have hS : SM wx wx := Below.refl _ _
    have KS : Hid (∀ V, SM wx V → (V.cell? ⟨W, 0, none⟩ = some (.pointer (some ⟨c, 0, none⟩)))) := Lib.hid (fun V h => SM.at' HW.out h 0 rfl)
    obtain ⟨X1, hX1⟩ : ∃ X, L.filter (pickB r [1]) = X := ⟨_, rfl⟩
    obtain ⟨X2, hX2⟩ : ∃ X, L.filter (pickB r [2]) = X := ⟨_, rfl⟩
    have HX1 := Lib.hid hX1
    have HX2 := Lib.hid hX2
    have HPK : Hid (∀ (K : Int) (V : World) (b : Nat), I64 K → SM wx V → V.heap[b]? = some (.cells #[.int .i64 K] 3 (0, 0)) → Calls Tryz.prog 99 #[.pointer (some ⟨c, 0, none⟩), .slice la L.length lc, .slice (some ⟨b, 0, none⟩) 1 1] V fun en w' => ∃ a c', en = .returned (.slice a (L.filter (pickB r [K])).length c') ∧ OwnL tBal w' V.heap.size (.slice a (L.filter (pickB r [K])).length c') (L.filter (pickB r [K])) ∧ Below V.heap.size V w') := Lib.hid (fun K V b hK hsm hk => by
      refine (pick_big (HCH.out.below (HB.out.trans (Below.mono (show Below wx.heap.size wx V from hsm) HB.out.size))) L la lc [K] (some ⟨b, 0, none⟩) 1 (Sl.keep (fun k hk _ => Below.block (show Below wx.heap.size wx V from hsm) k hk) HO.out.sl) (by omega) (sl_oneI (F := fun _ => True) hk trivial hK) (by unfold maxLen; simp)).mono ?_
      rintro en w' ⟨v, rfl, ho, hb'⟩
      obtain ⟨a, c', rfl, -, -, -⟩ := ho.slice
      exact ⟨a, c', rfl, ho, hb'⟩)
    have HP1 := Lib.hid (fun V b h1 h2 => HPK.out 1 V b (by decide) h1 h2)
    have HP2 := Lib.hid (fun V b h1 h2 => HPK.out 2 V b (by decide) h1 h2)
    rw [hX1] at HP1
    rw [hX2] at HP2
    clear hX1 hX2 hr hw hz hb ho HPK
    have HSa : Hid (SM wx (wx.alloc (.cells #[.int .i64 1] 3)).drew) := Lib.hid (SM.drew (SM.alloc hS _))
    have HSb : Hid (SM wx ((wx.alloc (.cells #[.int .i64 1] 3)).alloc (.cells #[.int .i64 2] 3)).drew) := Lib.hid (SM.drew (SM.alloc (SM.alloc hS _) _))
    have HSc : Hid (SM wx ((wx.alloc (.cells #[.int .i64 2] 3)).alloc (.cells #[.int .i64 1] 3)).drew) := Lib.hid (SM.drew (SM.alloc (SM.alloc hS _) _))
    have HKa : Hid ((wx.alloc (.cells #[.int .i64 1] 3)).drew.heap[wx.heap.size]? = some (.cells #[.int .i64 1] 3 (0, 0))) := Lib.hid (blk_new wx _)
    have HKb : Hid (((wx.alloc (.cells #[.int .i64 1] 3)).alloc (.cells #[.int .i64 2] 3)).drew.heap[wx.heap.size]? = some (.cells #[.int .i64 1] 3 (0, 0))) := Lib.hid (blk_alloc (blk_new wx _) _)
    have HKc : Hid (((wx.alloc (.cells #[.int .i64 2] 3)).alloc (.cells #[.int .i64 1] 3)).drew.heap[wx.heap.size + 1]? = some (.cells #[.int .i64 1] 3 (0, 0))) := Lib.hid (by show ((wx.alloc (.cells #[.int .i64 2] 3)).alloc (.cells #[.int .i64 1] 3)).heap[wx.heap.size + 1]? = _; have := blk_new (wx.alloc (.cells #[.int .i64 2] 3)) (.cells #[.int .i64 1] 3); simpa using this)
    have HLb : Hid (((wx.alloc (.cells #[.int .i64 1] 3)).alloc (.cells #[.int .i64 2] 3)).drew.heap[wx.heap.size + 1]? = some (.cells #[.int .i64 2] 3 (0, 0))) := Lib.hid (by show ((wx.alloc (.cells #[.int .i64 1] 3)).alloc (.cells #[.int .i64 2] 3)).heap[wx.heap.size + 1]? = _; have := blk_new (wx.alloc (.cells #[.int .i64 1] 3)) (.cells #[.int .i64 2] 3); simpa using this)
    have HLc : Hid (((wx.alloc (.cells #[.int .i64 2] 3)).alloc (.cells #[.int .i64 1] 3)).drew.heap[wx.heap.size]? = some (.cells #[.int .i64 2] 3 (0, 0))) := Lib.hid (blk_alloc (blk_new wx _) _)
    refine (fun (key : ∀ (d1 d2 : Addr) (xa : Option Addr) (xc : Nat) (ya : Option Addr) (yc : Nat) (w3 : World), PickF wx w3 X1 X2 xa xc ya yc → (?G : Addr → Addr → Option Addr → Nat → Option Addr → Nat → World → Prop) d1 d2 xa xc ya yc w3) => ?main) ?kp
    case main =>
      go_region_held3 (fun w' => w'.cell? ⟨W, 0, none⟩ = some (.pointer (some ⟨c, 0, none⟩))) (first | with_reducible exact KS.out _ HB3.out | with_reducible exact KS.out _ HB2.out | with_reducible exact KS.out _ (SM.alloc HB2.out _) | (refine KS.out _ ?_; repeat (first | with_reducible exact hS | with_reducible refine SM.drew ?_ | with_reducible refine SM.alloc ?_ _))) (first
        | (go_at_call 99; have ho1 := HO1.out; refine (HP2.out _ _ (by first | with_reducible exact HB2.out | exact SM.alloc HB2.out _) (by first | with_reducible exact HL2.out | exact blk_new w2 _)).mono ?_; rintro en w3 ⟨ya, yc, rfl, ho2, hb2⟩; have HB3 : Hid (SM wx w3) := (by first | with_reducible exact Lib.hid (SM.call HB2.out hb2) | exact Lib.hid (SM.call (SM.alloc HB2.out _) hb2)); have HF : Hid (PickF wx w3 X1 X2 xa xc ya yc) := Lib.hid ⟨HB3.out, (by first | with_reducible exact ho1.below hb2 | exact (ho1.alloc _).below hb2), ho2.mono (by first | exact SM.le HB2.out | exact SM.le (SM.alloc HB2.out _))⟩; clear ho1 ho2 hb2)
        | (go_at_call 99; refine (HP1.out _ _ (by first | exact HSa.out | exact HSb.out | exact HSc.out) (by first | exact HKa.out | exact HKb.out | exact HKc.out)).mono ?_; rintro en w2 ⟨xa, xc, rfl, ho1, hb1⟩; have HB2 : Hid (SM wx w2) := (by first | exact Lib.hid (SM.call HSa.out hb1) | exact Lib.hid (SM.call HSb.out hb1) | exact Lib.hid (SM.call HSc.out hb1)); have HO1 : Hid (OwnL tBal w2 wx.heap.size (.slice xa X1.length xc) X1) := Lib.hid (ho1.mono (by first | exact HSa.out.size | exact HSb.out.size | exact HSc.out.size)); (first | have HL2 := Lib.hid (blk_below HLb.out hb1) | have HL2 := Lib.hid (blk_below HLc.out hb1) | skip); clear ho1 hb1))
      · generalize (⟨wx.heap.size, 0, none⟩ : Addr) = d1
        generalize (⟨w2.heap.size, 0, none⟩ : Addr) = d2
        exact key d1 d2 xa xc ya yc w3 HF.out
      · generalize (⟨wx.heap.size, 0, none⟩ : Addr) = d1
        generalize (⟨wx.heap.size + 1, 0, none⟩ : Addr) = d2
        exact key d1 d2 xa xc ya yc w3 HF.out
      · generalize (⟨wx.heap.size + 1, 0, none⟩ : Addr) = d1
        generalize (⟨wx.heap.size, 0, none⟩ : Addr) = d2
        exact key d1 d2 xa xc ya yc w3 HF.out
    case kp =>
      intro d1 d2 xa xc ya yc w3 hF
      have HR3 := Lib.hid (blk_below HR.out hF.sm)
      have HW3 := Lib.hid (blk_below HW.out hF.sm)
      have HZ3 := Lib.hid (blk_below HZ.out hF.sm)
      have HB3 := Lib.hid (belows_then HB.out HB.out.size hF.sm)
      have HO3 := Lib.hid (HO.out.below hF.sm)
      have HS1 := Lib.hid hF.s1.slice'
      have HS2 := Lib.hid hF.s2.slice'
      have hs3 : wx.heap.size ≤ w3.heap.size := SM.le hF.sm
      clear hF HSa HSb HSc HKa HKb HKc HLb HLc HP1 HP2 KS hS HR HW HZ HB HO
      have hf1 : ∀ x ∈ X1, fitsB x.2 = true := fun x hx => by rw [← HX1.out] at hx; exact HLF.out x (List.mem_filter.1 hx).1
      have hf2 : ∀ x ∈ X2, fitsB x.2 = true := fun x hx => by rw [← HX2.out] at hx; exact HLF.out x (List.mem_filter.1 hx).1
      have hx1 : X1.length ≤ 80000 := by rw [← HX1.out]; exact Nat.le_trans (List.length_filter_le _ _) hL8
      have hx2 : X2.length ≤ 80000 := by rw [← HX2.out]; exact Nat.le_trans (List.length_filter_le _ _) hL8
      obtain ⟨Y1, hY1⟩ : ∃ Y, X1.map (·.2) = Y := ⟨_, rfl⟩
      obtain ⟨Y2, hY2⟩ : ∃ Y, negA X2 = Y := ⟨_, rfl⟩
      have hy1 : Y1.length ≤ 80000 := by rw [← hY1, List.length_map]; exact hx1
      have hy2 : Y2.length ≤ 80000 := by rw [← hY2]; unfold negA; rw [List.length_map]; exact hx2
      have hA1 := H1.out
      have hA2 := H2.out
      rw [HX1.out, hY1] at hA1
      rw [HX2.out, hY2] at hA2
      have HA1 := Lib.hid hA1
      have HA2 := Lib.hid hA2
      have hS : SM w3 w3 := Below.refl _ _
      have HM1 : Hid (∀ V, SM w3 V → Calls Tryz.prog 100 #[.slice xa X1.length xc, .int .i64 1] V fun en w' => ∃ a c, en = .returned (.slice a Y1.length c) ∧ OwnL tInt w' V.heap.size (.slice a Y1.length c) Y1 ∧ Below V.heap.size V w') := Lib.hid (fun V hb => by
        refine (amounts_pos X1 xa xc V (Sl.keep (fun k hk _ => Below.block (show Below w3.heap.size w3 V from hb) k hk) HS1.out) (by omega) hf1).mono ?_
        rintro en w' ⟨v, rfl, ho, hb'⟩
        rw [hY1] at ho
        obtain ⟨a, c, rfl, -, -, -⟩ := ho.slice
        exact ⟨a, c, rfl, ho, hb'⟩)
      have HM2 : Hid (∀ V, SM w3 V → Calls Tryz.prog 100 #[.slice ya X2.length yc, .int .i64 (-1)] V fun en w' => ∃ a c, en = .returned (.slice a Y2.length c) ∧ OwnL tInt w' V.heap.size (.slice a Y2.length c) Y2 ∧ Below V.heap.size V w') := Lib.hid (fun V hb => by
        refine (amounts_neg X2 ya yc V (Sl.keep (fun k hk _ => Below.block (show Below w3.heap.size w3 V from hb) k hk) HS2.out) (by omega) hf2).mono ?_
        rintro en w' ⟨v, rfl, ho, hb'⟩
        rw [hY2] at ho
        obtain ⟨a, c, rfl, -, -, -⟩ := ho.slice
        exact ⟨a, c, rfl, ho, hb'⟩)
      have KS : Hid (∀ V, SM w3 V → (V.cell? ⟨W, 5, none⟩ = some (.slice a5 T5.length c5) ∧ V.cell? ⟨W, 6, none⟩ = some (.slice a6 T6.length c6) ∧ V.cell? ⟨W, 7, none⟩ = some (.slice a7 T7.length c7))) := Lib.hid (fun V h => ⟨SM.at' HW3.out h 5 rfl, SM.at' HW3.out h 6 rfl, SM.at' HW3.out h 7 rfl⟩)
      have hwl := blk_lt HW3.out
      have hrl := blk_lt HR3.out
      clear hf1 hf2 hY1 hY2 hA1 hA2 H1 H2 HX1 HX2 hx1 hx2
      go_wp2_with fail
      go_region_held3 (fun w' => w'.cell? ⟨W, 5, none⟩ = some (.slice a5 T5.length c5) ∧ w'.cell? ⟨W, 6, none⟩ = some (.slice a6 T6.length c6) ∧ w'.cell? ⟨W, 7, none⟩ = some (.slice a7 T7.length c7)) (first | with_reducible exact KS.out _ (SM.alloc HB5.out _) | with_reducible exact KS.out _ HB5.out | with_reducible exact KS.out _ HB4.out | with_reducible exact KS.out _ (SM.drew hS)) (first
        | (go_at_call 100; have ho1 := HQ1.out; refine (HM2.out _ HB4.out).mono ?_; rintro en w5 ⟨ta, tc, rfl, ho, hb⟩; have HB5 : Hid (SM w3 w5) := Lib.hid (SM.call HB4.out hb); have HQ2 : Hid (OwnL tInt w5 w3.heap.size (.slice ta Y2.length tc) Y2) := Lib.hid (ho.mono (SM.le HB4.out)); have HQ3 := Lib.hid (ho1.below hb); clear ho hb ho1)
        | (go_at_call 100; refine (HM1.out _ (SM.drew hS)).mono ?_; rintro en w4 ⟨sa, sc, rfl, ho, hb⟩; have HB4 : Hid (SM w3 w4) := Lib.hid (SM.call (SM.drew hS) hb); have HQ1 : Hid (OwnL tInt w4 w3.heap.size (.slice sa Y1.length sc) Y1) := Lib.hid ho; clear ho hb))
      go_wp2_with fail
      have HTB := Lib.hid (blk_new w5 (.cells #[.pointer (some ⟨R, 1, none⟩), .slice a5 T5.length c5, .pointer (some ⟨R, 2, none⟩), .slice a6 T6.length c6, .pointer (some ⟨R, 3, none⟩), .slice a7 T7.length c7, .pointer (some ⟨R, 4, none⟩), .slice sa Y1.length sc, .pointer (some ⟨R, 5, none⟩), .slice ta Y2.length tc] 156))
      have HBT : Hid (Below w3.heap.size w3 (w5.alloc (.cells #[.pointer (some ⟨R, 1, none⟩), .slice a5 T5.length c5, .pointer (some ⟨R, 2, none⟩), .slice a6 T6.length c6, .pointer (some ⟨R, 3, none⟩), .slice a7 T7.length c7, .pointer (some ⟨R, 4, none⟩), .slice sa Y1.length sc, .pointer (some ⟨R, 5, none⟩), .slice ta Y2.length tc] 156))) := Lib.hid (show SM w3 _ from SM.alloc HB5.out _)
      have hR5 : R < w5.heap.size := Nat.lt_of_lt_of_le hrl (SM.le HB5.out)
      have old : ∀ {a : Option Addr} {T : List Int}, Sl tInt w (fun _ => True) a T → Sl tInt w3 (fun k => k ≠ R) a T := fun h => Sl.keep (fun k hk _ => HB3.out.block k hk) (Sl.mono (fun k hk _ => (by omega : k ≠ R)) h)
      have new1 : Sl tInt w5 (fun k => k ≠ R) sa Y1 := by
        obtain ⟨a', c', he, _, _, h⟩ := HQ3.out.slice_free (fun _ _ _ _ _ h => h)
        injection he with he
        subst he
        exact Sl.mono (fun k hk hf => (by have := hf.1; omega : k ≠ R)) h
      have new2 : Sl tInt w5 (fun k => k ≠ R) ta Y2 := by
        obtain ⟨a', c', he, _, _, h⟩ := HQ2.out.slice_free (fun _ _ _ _ _ h => h)
        injection he with he
        subst he
        exact Sl.mono (fun k hk hf => (by have := hf.1; omega : k ≠ R)) h
      refine abs_world (S := fun wT => wT.heap[w5.heap.size]? = some (.cells #[.pointer (some ⟨R, 1, none⟩), .slice a5 T5.length c5, .pointer (some ⟨R, 2, none⟩), .slice a6 T6.length c6, .pointer (some ⟨R, 3, none⟩), .slice a7 T7.length c7, .pointer (some ⟨R, 4, none⟩), .slice sa Y1.length sc, .pointer (some ⟨R, 5, none⟩), .slice ta Y2.length tc] 156 (0, 0)) ∧ wT.heap[R]? = some (.cells (rC (.slice la L.length lc) pl ou ot ow od 0) 51 (0, 0)) ∧ wT.heap[w.heap.size]? = some (.cells #[.slice none 0 0, .int .i64 0, .int .i64 0, .int .i64 0, .int .i64 0, .int .i64 0, .int .i64 0] 51 (0, 0)) ∧ Below w.heap.size w wT ∧ OwnL tBal wT w.heap.size (.slice la L.length lc) L ∧ Sl tInt wT (fun k => k ≠ R) a5 T5 ∧ Sl tInt wT (fun k => k ≠ R) a6 T6 ∧ Sl tInt wT (fun k => k ≠ R) a7 T7 ∧ Sl tInt wT (fun k => k ≠ R) sa Y1 ∧ Sl tInt wT (fun k => k ≠ R) ta Y2) ?_
        ⟨HTB.out, blk_below HR3.out HBT.out, blk_below HZ3.out HBT.out, belows_then HB3.out HB3.out.size HBT.out, HO3.out.below HBT.out, Sl.keep (fun k hk _ => HBT.out.block k hk) (old HS5.out), Sl.keep (fun k hk _ => HBT.out.block k hk) (old HS6.out), Sl.keep (fun k hk _ => HBT.out.block k hk) (old HS7.out), Sl.keep (fun k hk _ => Below.heap_alloc w5 _ k hk) new1, Sl.keep (fun k hk _ => Below.heap_alloc w5 _ k hk) new2⟩
      clear HTB HBT old new1 new2 HQ1 HQ2 HQ3 HB4 HB5 HM1 HM2 KS HR3 HW3 HZ3 HB3 HO3 HS1 HS2 HS5 HS6 HS7 hS
      rintro wT ⟨htb, hrT, hzT, hbT, hoT, q5, q6, q7, q1, q2⟩
      have HTB := Lib.hid htb
      have HRT := Lib.hid hrT
      have HZT := Lib.hid hzT
      have HBT := Lib.hid hbT
      have HOT := Lib.hid hoT
      have HQ : Hid (∀ n, n < 5 → ∃ (an : Option Addr) (cn : Nat) (Tn : List Int), (#[.pointer (some ⟨R, 1, none⟩), .slice a5 T5.length c5, .pointer (some ⟨R, 2, none⟩), .slice a6 T6.length c6, .pointer (some ⟨R, 3, none⟩), .slice a7 T7.length c7, .pointer (some ⟨R, 4, none⟩), .slice sa Y1.length sc, .pointer (some ⟨R, 5, none⟩), .slice ta Y2.length tc] : Array Value)[n * 2]? = some (.pointer (some ⟨R, n + 1, none⟩)) ∧
          (#[.pointer (some ⟨R, 1, none⟩), .slice a5 T5.length c5, .pointer (some ⟨R, 2, none⟩), .slice a6 T6.length c6, .pointer (some ⟨R, 3, none⟩), .slice a7 T7.length c7, .pointer (some ⟨R, 4, none⟩), .slice sa Y1.length sc, .pointer (some ⟨R, 5, none⟩), .slice ta Y2.length tc] : Array Value)[n * 2 + 1]? = some (.slice an Tn.length cn) ∧ Sl tInt wT (fun k => k ≠ R) an Tn ∧ Tn.length ≤ 100000 ∧ addM Tn = (sel5 pl ou ot ow od n, sel5 e5 e6 e7 e1 e2 n)) := Lib.hid (fun n hn => by
        have hc : n = 0 ∨ n = 1 ∨ n = 2 ∨ n = 3 ∨ n = 4 := by omega
        rcases hc with rfl | rfl | rfl | rfl | rfl
        · exact ⟨a5, c5, T5, rfl, rfl, q5, by omega, H5.out⟩
        · exact ⟨a6, c6, T6, rfl, rfl, q6, by omega, H6.out⟩
        · exact ⟨a7, c7, T7, rfl, rfl, q7, by omega, H7.out⟩
        · exact ⟨sa, sc, Y1, rfl, rfl, q1, by omega, HA1.out⟩
        · exact ⟨ta, tc, Y2, rfl, rfl, q2, by omega, HA2.out⟩)
      have hTl := blk_lt htb
      have hRl := blk_lt hrT
      have hZl := blk_lt hzT
      clear htb hrT hzT hbT hoT q5 q6 q7 q1 q2 H5 H6 H7 HA1 HA2
      go_loopw [64] (fun vi wr => ∃ n : Nat, n ≤ 5 ∧ vi = .int .i64 n ∧ wr.heap[R]? = some (.cells (rC (.slice la L.length lc) pl ou ot ow od n) 51 (0, 0)) ∧ But (· = R) wT wr ∧ Hid (∀ i, i < n → sel5 e5 e6 e7 e1 e2 i = 0)) (fun vi _ => 5 - (Go.RowKit.intOf vi).toNat)
      case atStart => exact ⟨0, Nat.zero_le _, rfl, HRT.out, But.refl _ _, Lib.hid (fun i hi => by omega)⟩
      case round =>
        obtain ⟨n, hn5, rfl, hr, hbut, hz0⟩ := hrel
        have HRR := Lib.hid hr
        have HBU := Lib.hid hbut
        clear hr hbut
        by_cases hlt : n < 5
        · obtain ⟨an, cn, Tn, k0, k1, hsn, hln, hadd⟩ := HQ.out n hlt
          have HSN := Lib.hid hsn
          have hcT := blk_cells ((HBU.out.block w5.heap.size hTl (by omega)).trans HTB.out)
          have hc0 := (hcT (n * 2)).trans k0
          have hc1 := (hcT (n * 2 + 1)).trans k1
          have htl2 := blk_lt ((HBU.out.block w5.heap.size hTl (by omega)).trans HTB.out)
          have HRS := Lib.hid (rC_succ (.slice la L.length lc) pl ou ot ow od hlt)
          have HEA := Lib.hid (fun h => err_at (e3 := e3) hlt rfl hz0.out h)
          have HZN := Lib.hid (fun (h : sel5 e5 e6 e7 e1 e2 n = 0) => (fun i hi => by rcases Nat.lt_or_ge i n with h1 | h1; exact hz0.out i h1; (have : i = n := by omega); rw [this]; exact h : ∀ i, i < n + 1 → sel5 e5 e6 e7 e1 e2 i = 0))
          have HADD := Lib.hid hadd
          obtain ⟨u0, hu0⟩ : ∃ u, (rC (.slice la L.length lc) pl ou ot ow od n)[n + 1]? = some u := by
            have hc : n = 0 ∨ n = 1 ∨ n = 2 ∨ n = 3 ∨ n = 4 := by omega
            rcases hc with rfl | rfl | rfl | rfl | rfl <;> exact ⟨_, rfl⟩
          have HU := Lib.hid hu0
          generalize sel5 pl ou ot ow od n = A at HRS HADD
          generalize sel5 e5 e6 e7 e1 e2 n = E at HEA HZN HADD
          clear k0 k1 hsn hcT hadd hu0
          have HZA := Lib.hid (blk_new wr (.cells #[.pointer (some ⟨R, n + 1, none⟩), .slice an Tn.length cn] 156))
          go_wp2_with fail
          refine abs_world (S := fun wy => wy.heap[wr.heap.size]? = some (.cells #[.pointer (some ⟨R, n + 1, none⟩), .slice an Tn.length cn] 156 (0, 0)) ∧ wy.heap[R]? = some (.cells (rC (.slice la L.length lc) pl ou ot ow od n) 51 (0, 0)) ∧ But (· = R) wT wy ∧ R < wr.heap.size) ?_ ⟨HZA.out, blk_alloc HRR.out _, HBU.out.alloc _, blk_lt HRR.out⟩
          clear HZA HRR HBU hc0 hc1 htl2
          rintro wy ⟨hzy, hry, hby, hRy⟩
          have HZY := Lib.hid hzy
          have HRY := Lib.hid hry
          have HBY := Lib.hid hby
          have hS : SM wy wy := Below.refl _ _
          have HAD : Hid (∀ V, SM wy V → Calls Tryz.prog 97 #[.slice an Tn.length cn] V fun en w' => en = .returned (.tuple #[.int .i64 A, .int .i64 E]) ∧ Below V.heap.size V w') := Lib.hid (fun V hb => madd_is Tn an cn V (Sl.keep (fun k hk _ => Below.block (show Below wy.heap.size wy V from hb) k hk) (Sl.keep (fun k hk hf => HBY.out.block k hk hf) HSN.out)) hln HADD.out)
          have KS : Hid (∀ V, SM wy V → (V.cell? ⟨wr.heap.size, 0, none⟩ = some (.pointer (some ⟨R, n + 1, none⟩)) ∧ V.cell? ⟨wr.heap.size, 1, none⟩ = some (.slice an Tn.length cn))) := Lib.hid (fun V h => ⟨SM.at' HZY.out h 0 rfl, SM.at' HZY.out h 1 rfl⟩)
          have KT : Hid (∀ V v, SM wy V → ((V.setCell ⟨R, n + 1, none⟩ v).cell? ⟨wr.heap.size, 0, none⟩ = some (.pointer (some ⟨R, n + 1, none⟩)) ∧ (V.setCell ⟨R, n + 1, none⟩ v).cell? ⟨wr.heap.size, 1, none⟩ = some (.slice an Tn.length cn))) := Lib.hid (fun V v h => by
            have h1 := blk_cells (blk_far (blk_below HZY.out h) (p := ⟨R, n + 1, none⟩) (by show wr.heap.size ≠ R; omega) v)
            exact ⟨h1 0, h1 1⟩)
          clear hzy hry hby
          go_region_held3 (fun w' => w'.cell? ⟨wr.heap.size, 0, none⟩ = some (.pointer (some ⟨R, n + 1, none⟩)) ∧ w'.cell? ⟨wr.heap.size, 1, none⟩ = some (.slice an Tn.length cn)) (first | with_reducible exact KT.out _ _ HB6.out | with_reducible exact KS.out _ HB6.out | with_reducible exact KS.out _ (SM.drew hS)) ((go_at_call 97; refine (HAD.out _ (SM.drew hS)).mono ?_; rintro en w6 ⟨rfl, hb⟩; have HB6 : Hid (SM wy w6) := Lib.hid (SM.call (SM.drew hS) hb); have hro := (blk_cells (blk_below HRY.out HB6.out) (n + 1)).trans HU.out; have hrf := blk_frz (blk_below HRY.out HB6.out) (n + 1); have hrl6 := blk_lt (blk_below HRY.out HB6.out); clear hb))
          refine abs_then (S := fun wz => wz.heap[R]? = some (.cells (rC (.slice la L.length lc) pl ou ot ow od (n + 1)) 51 (0, 0)) ∧ But (· = R) wT wz) ?_ ⟨by have := blk_set (blk_below HRY.out HB6.out) (n + 1) (.int .i64 A); rw [HRS.out] at this; exact this, (HBY.out.call HB6.out).setCell (p := ⟨R, n + 1, none⟩) (.inl rfl) _⟩
          rintro w7 ⟨hr7, hb7⟩
          have HR7 := Lib.hid hr7
          have HB7 := Lib.hid hb7
          have HZ7 := Lib.hid ((hb7.block w.heap.size hZl (by omega)).trans HZT.out)
          have HBW7 : Hid (Below w.heap.size w w7) := Lib.hid (But.toBelow HBT.out hb7 (fun k e => by omega) HBT.out.size)
          clear hr7 hb7 hro hrf hrl6 KS KT HAD HZY HRY HBY HB6 hS
          cases q1 : E == 0
          · have hne : E ≠ 0 := by simpa using q1
            have hq2 : (E != 0) = true := by simpa using q1
            have HNE := Lib.hid hne
            have HEQ := Lib.hid (HEA.out hne)
            clear q1 hne
            have hzz := HZ7.out
            have hcz := blk_cells hzz
            have hfz := blk_frz hzz
            have hlz := blk_lt hzz
            have HTE : Hid (RT = (grp0, E)) := Lib.hid (by rw [HRES.out, show errN _ _ _ _ _ _ _ = E from HEQ.out]; rw [if_pos (by first | decide | (simpa using HNE.out))])
            have HZZ := Lib.hid hzz
            clear hzz
            go_wp2_with fail
            obtain ⟨w9, hw9, h9, hs9, hk9, hb9⟩ := seven _ w.heap.size HZZ.out (.slice none 0 0) (.int .i64 0) (.int .i64 0) (.int .i64 0) (.int .i64 0) (.int .i64 0) (.int .i64 0)
            rw [hw9]
            clear hw9
            refine bodyPost_ret (v := .tuple #[.agg #[.slice none 0 0, .int .i64 0, .int .i64 0, .int .i64 0, .int .i64 0, .int .i64 0, .int .i64 0], .int .i64 E]) (results_row_tmp (fn := Tryz.f30) (p := 2) (ty := 51) rfl _ _ w.heap.size 51 _ (0, 0) _ rfl h9 Tryz.underlying51 rfl (by kernel_rfl)) rfl ?_
            rw [HTE.out]
            exact ⟨_, rfl, OwnL.nil _ _, hb9 _ _ HBW7.out (Nat.le_refl _)⟩
          · obtain rfl : E = 0 := by simpa using q1
            clear q1
            go_wp2_with fail
            go_roundw
            case rel => exact ⟨n + 1, by omega, by go_num, HR7.out, HB7.out, Lib.hid (HZN.out rfl)⟩
            case measure => simp [Go.RowKit.intOf]; omega
        · obtain rfl : n = 5 := by omega
          have hr5 : wr.heap[R]? = some (.cells #[.slice la L.length lc, .int .i64 pl, .int .i64 ou, .int .i64 ot, .int .i64 ow, .int .i64 od, .int .i64 0] 51 (0, 0)) := HRR.out
          have HR5 := Lib.hid hr5
          have HZR := Lib.hid ((HBU.out.block w.heap.size hZl (by omega)).trans HZT.out)
          have HBW : Hid (Below w.heap.size w wr) := Lib.hid (But.toBelow HBT.out HBU.out (fun k e => by omega) HBT.out.size)
          have HOR : Hid (OwnL tBal wr w.heap.size (.slice la L.length lc) L) := Lib.hid (HOT.out.but bal_Free HBU.out (fun k hk e => HOT.out.off HRT.out (by decide) k hk e))
          have HEL := Lib.hid (err_last (eB := 0) (e3 := e3) rfl hz0.out)
          have hodb : -1000000000000000 ≤ od ∧ od ≤ 1000000000000000 := by simpa [fitsB] using HFI.out.2.2
          have hw1 : ∀ y : Int, fitsB y = true → I64 y := fun y hy => by
            have : -1000000000000000 ≤ y ∧ y ≤ 1000000000000000 := by simpa [fitsB] using hy
            unfold I64 Lit.wf; simp [IntKind.min, IntKind.max, IntKind.bits, IntKind.signed]; omega
          have hw2 : I64 (-od) := by unfold I64 Lit.wf; simp [IntKind.min, IntKind.max, IntKind.bits, IntKind.signed]; omega
          have HBA := Lib.hid ((Below.refl wr.heap.size wr).alloc (Nat.le_refl _) (.cells #[.int .i64 ow, .int .i64 (-od), .int .i64 ot] 3))
          have HAD := Lib.hid (madd_is [ow, -od, ot] (some ⟨wr.heap.size, 0, none⟩) 3 (wr.alloc (.cells #[.int .i64 ow, .int .i64 (-od), .int .i64 ot] 3)) (sl_ints [ow, -od, ot] (blk_new wr _) (fun y hy => by
            simp at hy
            rcases hy with rfl | rfl | rfl
            · exact hw1 _ HFI.out.1
            · exact hw2
            · exact hw1 _ HFI.out.2.1)) (by simp) H3.out)
          have hcr := blk_cells hr5
          have hne1 : ¬ w.heap.size = R := by omega
          have hne2 : ¬ R = w.heap.size := by omega
          clear hr5 hw1 hw2 hz0 HRR HTB HRT HZT HBT HOT HQ
          go_wp2_with fail
          refine HAD.out.mono ?_
          rintro en8 w8 ⟨rfl, hb⟩
          have HR8 := Lib.hid (blk_below (blk_alloc HR5.out (.cells #[.int .i64 ow, .int .i64 (-od), .int .i64 ot] 3)) hb)
          have HZ8 := Lib.hid (blk_below (blk_alloc HZR.out (.cells #[.int .i64 ow, .int .i64 (-od), .int .i64 ot] 3)) hb)
          have HO8 := Lib.hid ((HOR.out.alloc (.cells #[.int .i64 ow, .int .i64 (-od), .int .i64 ot] 3)).below hb)
          have HB8 := Lib.hid (belows_then (HBW.out.alloc HBW.out.size (.cells #[.int .i64 ow, .int .i64 (-od), .int .i64 ot] 3)) (by have := HBW.out.size; simp; omega) hb)
          have hc8 := blk_cells HR8.out
          have hf8 := blk_frz HR8.out
          have hl8 := blk_lt HR8.out
          have HR9 := Lib.hid (by have := blk_set HR8.out 6 (.int .i64 on); simpa using this : (w8.setCell ⟨R, 6, none⟩ (.int .i64 on)).heap[R]? = some (.cells #[.slice la L.length lc, .int .i64 pl, .int .i64 ou, .int .i64 ot, .int .i64 ow, .int .i64 od, .int .i64 on] 51 (0, 0)))
          have HZ9 := Lib.hid (blk_far HZ8.out (p := ⟨R, 6, none⟩) hne1 (.int .i64 on))
          have HB9 : Hid (Below w.heap.size w (w8.setCell ⟨R, 6, none⟩ (.int .i64 on))) := Lib.hid (HB8.out.setCell (by show w.heap.size ≤ R; omega) _)
          have hk8 : ∀ k, (Value.slice la L.length lc).ownBlock = some k → k ≠ R := fun k hk => HO8.out.off HR8.out (by decide) k hk
          have HO9 : Hid (OwnL tBal (w8.setCell ⟨R, 6, none⟩ (.int .i64 on)) w.heap.size (.slice la L.length lc) L) := Lib.hid (HO8.out.keepF bal_Free (fun k hk => Below.heap_setCell _ _ _ k (hk8 k hk)))
          clear hb hcr HAD HBA HR5 HZR HBW HOR hk8
          cases q1 : e3 == 0
          · have hne : e3 ≠ 0 := by simpa using q1
            have hq2 : (e3 != 0) = true := by simpa using q1
            have HNE := Lib.hid hne
            have hcz8 := blk_cells HZ8.out
            have hfz8 := blk_frz HZ8.out
            have hlz8 := blk_lt HZ8.out
            clear q1 hne
            have hzz := HZ9.out
            have hcz := blk_cells hzz
            have hfz := blk_frz hzz
            have hlz := blk_lt hzz
            have HTE : Hid (RT = (grp0, e3)) := Lib.hid (by rw [HRES.out, show errN _ _ _ _ _ _ _ = e3 from HEL.out]; rw [if_pos (by first | decide | (simpa using HNE.out))])
            have HZZ := Lib.hid hzz
            clear hzz
            go_wp2_with fail
            obtain ⟨w9, hw9, h9, hs9, hk9, hb9⟩ := seven _ w.heap.size HZZ.out (.slice none 0 0) (.int .i64 0) (.int .i64 0) (.int .i64 0) (.int .i64 0) (.int .i64 0) (.int .i64 0)
            rw [hw9]
            clear hw9
            refine bodyPost_ret (v := .tuple #[.agg #[.slice none 0 0, .int .i64 0, .int .i64 0, .int .i64 0, .int .i64 0, .int .i64 0, .int .i64 0], .int .i64 e3]) (results_row_tmp (fn := Tryz.f30) (p := 2) (ty := 51) rfl _ _ w.heap.size 51 _ (0, 0) _ rfl h9 Tryz.underlying51 rfl (by kernel_rfl)) rfl ?_
            rw [HTE.out]
            exact ⟨_, rfl, OwnL.nil _ _, hb9 _ _ HB9.out (Nat.le_refl _)⟩
          · obtain rfl : e3 = 0 := by simpa using q1
            clear q1
            have HTE : Hid (RT = (⟨L, pl, ou, ot, ow, od, on⟩, 0)) := Lib.hid (by rw [HRES.out, HEL.out]; rfl)
            have hcz8 := blk_cells HZ8.out
            have hfz8 := blk_frz HZ8.out
            have hlz8 := blk_lt HZ8.out
            go_wp2_with fail
            obtain ⟨w9, hw9, h9, hs9, hk9, hb9⟩ := seven _ w.heap.size HZ9.out (.slice la L.length lc) (.int .i64 pl) (.int .i64 ou) (.int .i64 ot) (.int .i64 ow) (.int .i64 od) (.int .i64 on)
            rw [hw9]
            clear hw9
            refine bodyPost_ret (v := .tuple #[.agg #[.slice la L.length lc, .int .i64 pl, .int .i64 ou, .int .i64 ot, .int .i64 ow, .int .i64 od, .int .i64 on], .int .i64 0]) (results_row_tmp (fn := Tryz.f30) (p := 2) (ty := 51) rfl _ _ w.heap.size 51 _ (0, 0) _ rfl h9 Tryz.underlying51 rfl (by kernel_rfl)) rfl ?_
            rw [HTE.out]
            exact ⟨_, rfl, HO9.out.keepF bal_Free (fun k hk => hk9 k (HO9.out.off HZ9.out (by decide) k hk)), hb9 _ _ HB9.out (Nat.le_refl _)⟩
  · skip
    have hzz := HZ1.out
    have hcz := blk_cells hzz
    have hfz := blk_frz hzz
    have hlz := blk_lt hzz
    have HTE : Hid (RT = (grp0, 2)) := Lib.hid (by rw [HRES.out, show errN _ _ _ _ _ _ _ = 2 from (by unfold errN; rfl)]; rw [if_pos (by first | decide | (simpa using HNE.out))])
    have HZZ := Lib.hid hzz
    clear hzz
    go_wp2_with fail
    obtain ⟨w9, hw9, h9, hs9, hk9, hb9⟩ := seven _ w.heap.size HZZ.out (.slice none 0 0) (.int .i64 0) (.int .i64 0) (.int .i64 0) (.int .i64 0) (.int .i64 0) (.int .i64 0)
    rw [hw9]
    clear hw9
    refine bodyPost_ret (v := .tuple #[.agg #[.slice none 0 0, .int .i64 0, .int .i64 0, .int .i64 0, .int .i64 0, .int .i64 0, .int .i64 0], .int .i64 2]) (results_row_tmp (fn := Tryz.f30) (p := 2) (ty := 51) rfl _ _ w.heap.size 51 _ (0, 0) _ rfl h9 Tryz.underlying51 rfl (by kernel_rfl)) rfl ?_
    rw [HTE.out]
    exact ⟨_, rfl, OwnL.nil _ _, hb9 _ _ HB1.out (Nat.le_refl _)⟩
end Go.Proofs.YtgggpaacagbmcaaGreat
