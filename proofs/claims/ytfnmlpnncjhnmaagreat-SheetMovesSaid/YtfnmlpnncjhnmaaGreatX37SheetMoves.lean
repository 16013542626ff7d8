/- law 12, alive, the plain side. -/
import Derived.Test.YtfnmlpnncjhnmaaGreatX26SheetMoves
import Derived.Test.YtfnmlpnncjhnmaaGreatX36SheetMoves
import Derived.Test.YtfnmlpnncjhnmaaGreatX19SheetMoves
import Derived.Test.YtfnmlpnncjhnmaaGreatX20SheetMoves
import Derived.Deep.RegionHeld3
set_option linter.unusedVariables false
set_option linter.unusedSimpArgs false
namespace Go.Proofs.YtfnmlpnncjhnmaaGreat
open Go.RowKit Go.Maps Go.Deep

def j12 : Jn := ⟨1, 1, 3, ⟨#[]⟩, [⟨100, 5, 0⟩, ⟨400, -5, 0⟩], false⟩
def r12 : List Ac := [⟨100, 1, false⟩, ⟨400, 4, false⟩]
theorem j12_chk : chk j12 = 0 := by decide +kernel
theorem fit12 : fitJ 40 [j12] = [j12] := by
  have h1 : postJ [] j12 = 0 := post_mk j12_chk rfl (by simp [takenJ, j12]) (by simp)
  unfold fitJ
  simp only [List.foldl_cons, List.foldl_nil]
  unfold fitStep
  rw [h1]
  rfl
theorem set12 : setR r12 = r12 := by decide +kernel
theorem acc12a (t : Int) (h : 3 ≤ t) : linesOf [j12] 1 0 t = j12.lines := by
  unfold linesOf
  have : cnt 1 0 t j12 = true := by simp [cnt, j12, h]
  simp [this]
theorem bal12 (t : Int) (h : 3 ≤ t) (h2 : t ≤ 1199) : balT [j12] 1 0 t = ([(100, 5), (400, -5)], 0) := by
  have h1 : accR [j12] 1 0 t = [(100, 5), (400, -5)] := by
    unfold accR tellS
    rw [acc12a t h]
    have e : accS [] j12.lines = [(100, 5), (400, -5)] := by decide +kernel
    rw [e]
    have : srt ([((100 : Int), (5 : Int)), (400, -5)].map (·.1)) = [100, 400] := srt_id (l := [100, 400]) (by simp)
    rw [this]
    decide +kernel
  have hr : rightB 1 0 t = true := by
    unfold rightB
    simp [monthOk, entB]
    omega
  unfold balT
  rw [h1, hr]
  decide +kernel
theorem bal12n : balT [j12] 1 12 14 = ([], 0) := by
  have h1 : accR [j12] 1 12 14 = [] := by
    unfold accR tellS
    have e : accS [] (linesOf [j12] 1 12 14) = [] := by decide +kernel
    rw [e]
    have : srt (([] : List (Int × Int)).map (·.1)) = [] := srt_id (l := []) (by simp)
    rw [this]
    rfl
  unfold balT
  rw [h1]
  decide +kernel
theorem inc12 : incR r12 [(100, 5), (400, -5)] = ((5, 0, 5), 0) := by decide +kernel
theorem inc12n : incR r12 [] = ((0, 0, 0), 0) := by decide +kernel
theorem incM12 (t : Int) (h : 3 ≤ t) (h2 : t ≤ 1199) : incM r12 [j12] 1 0 t = ((5, 0, 5), 0) := by rw [incM_is (bal12 t h h2)]; exact inc12
theorem incM12n : incM r12 [j12] 1 12 14 = ((0, 0, 0), 0) := by rw [incM_is bal12n]; exact inc12n
theorem sh12a : shT r12 [j12] 1 5 = ((5, 0, 0, 0, 5, 0), 0) := by
  have h0 := bal12 5 (by omega) (by omega)
  have h1 : owT r12 [(100, 5), (400, -5)] = (5, 0) := by decide +kernel
  have h2 : oeT r12 [(100, 5), (400, -5)] = (0, 0) := by decide +kernel
  have h3 : heT r12 [(100, 5), (400, -5)] = (0, 0) := by decide +kernel
  have hj : janOf 5 = 0 := by decide
  have h4 : retT r12 [j12] 1 5 = (0, 0) := by unfold retT; rw [hj]; rfl
  have h5 : curT r12 [j12] 1 5 = (5, 0) := by unfold curT; rw [hj, incM12 5 (by omega) (by omega)]
  have h6 : otT r12 [(100, 5), (400, -5)] = (0, 0) := by decide +kernel
  unfold shT shE
  simp only [h0, h1, h2, h3, h4, h5, h6]
  rfl
theorem sh12b : shT r12 [j12] 1 14 = ((5, 0, 0, 5, 0, 0), 0) := by
  have h0 := bal12 14 (by omega) (by omega)
  have h1 : owT r12 [(100, 5), (400, -5)] = (5, 0) := by decide +kernel
  have h2 : oeT r12 [(100, 5), (400, -5)] = (0, 0) := by decide +kernel
  have h3 : heT r12 [(100, 5), (400, -5)] = (0, 0) := by decide +kernel
  have hj : janOf 14 = 12 := by decide
  have h4 : retT r12 [j12] 1 14 = (5, 0) := by unfold retT; rw [hj, show (12 : Int) - 1 = 11 from rfl, incM12 11 (by omega) (by omega)]; rfl
  have h5 : curT r12 [j12] 1 14 = (0, 0) := by unfold curT; rw [hj, incM12n]
  have h6 : otT r12 [(100, 5), (400, -5)] = (0, 0) := by decide +kernel
  unfold shT shE
  simp only [h0, h1, h2, h3, h4, h5, h6]
  rfl
theorem len12 : ((balT [j12] 1 0 5).1.filter (pickB r12 [1])).length = 1 := by rw [bal12 5 (by omega) (by omega)]; decide +kernel
end Go.Proofs.YtfnmlpnncjhnmaaGreat


/- sheet.Holds: are both sides of a sheet alike? -/
set_option linter.unusedVariables false
set_option linter.unusedSimpArgs false
namespace Go.Proofs.YtfnmlpnncjhnmaaGreat
open Go.RowKit Go.Maps Go.Deep

theorem sl_intsB {w : World} {b : Nat} (xs : List Int) (hb : w.heap[b]? = some (.cells (xs.map (Value.int .i64)).toArray 3 (0, 0))) (h : ∀ x ∈ xs, I64 x) : Sl tInt w (fun _ => True) (some ⟨b, 0, none⟩) xs := by
  intro i x hx
  have hlt : i < xs.length := (List.getElem?_eq_some_iff.1 hx).1
  refine ⟨_, [.int .i64 x], rfl, trivial, (Array.getElem?_eq_some_iff.1 hb).1, fun j v hv => ?_, rfl, h x (List.mem_of_getElem? hx)⟩
  cases j with
  | succ j => simp at hv
  | zero =>
    simp at hv
    subst hv
    rw [Go.Addr.add_add]
    have : (⟨b, 0, none⟩ : Addr).add (i * tInt.n + 0) = ⟨b, i, none⟩ := by
      have e : i * tInt.n + 0 = i := by show i * 1 + 0 = i; omega
      rw [e]
      unfold Addr.add
      split <;> simp_all
    rw [this, cell_of_row w b i _ 3 (0, 0) hb]
    simp [hx]

def sheetB (a b c d e f : Int) : Bool := [a, b, c, d, e, f].all fitsB && a == b + c + d + e + f
theorem fit_bd {n : Int} (h : fitsB n = true) : -1000000000000000 ≤ n ∧ n ≤ 1000000000000000 := by simpa [fitsB] using h

set_option maxHeartbeats 4000000 in
set_option maxRecDepth 100000 in
theorem shHolds_any (vA vL vE : Value) (a b c d e f : Int) (w : World) (hA : vA.oneCell' = true) (ha : I64 a) (hb : I64 b) (hc : I64 c) (hd : I64 d) (he : I64 e) (hf : I64 f) {q : Bool} (hq : sheetB a b c d e f = q) :
    Calls Tryz.prog 29 #[.agg #[vA, vL, vE, .int .i64 a, .int .i64 b, .int .i64 c, .int .i64 d, .int .i64 e, .int .i64 f]] w fun en w' => en = .returned (.bool q) ∧ Below w.heap.size w w' := by
  have hb2 := ((Below.refl w.heap.size w).alloc (Nat.le_refl _) (.cells #[vA, vL, vE, .int .i64 a, .int .i64 b, .int .i64 c, .int .i64 d, .int .i64 e, .int .i64 f] 75)).alloc (by simp) (.cells #[.int .i64 a, .int .i64 b, .int .i64 c, .int .i64 d, .int .i64 e, .int .i64 f] 3)
  have HB2 := Lib.hid hb2
  have HZ2 := Lib.hid (blk_alloc (blk_new w (.cells #[vA, vL, vE, .int .i64 a, .int .i64 b, .int .i64 c, .int .i64 d, .int .i64 e, .int .i64 f] 75)) (.cells #[.int .i64 a, .int .i64 b, .int .i64 c, .int .i64 d, .int .i64 e, .int .i64 f] 3))
  have HSI : Hid (Sl tInt ((w.alloc (.cells #[vA, vL, vE, .int .i64 a, .int .i64 b, .int .i64 c, .int .i64 d, .int .i64 e, .int .i64 f] 75)).alloc (.cells #[.int .i64 a, .int .i64 b, .int .i64 c, .int .i64 d, .int .i64 e, .int .i64 f] 3)) (fun _ => True) (some ⟨w.heap.size + 1, 0, none⟩) [a, b, c, d, e, f]) := Lib.hid (sl_intsB [a, b, c, d, e, f] (by have := blk_new (w.alloc (.cells #[vA, vL, vE, .int .i64 a, .int .i64 b, .int .i64 c, .int .i64 d, .int .i64 e, .int .i64 f] 75)) (.cells #[.int .i64 a, .int .i64 b, .int .i64 c, .int .i64 d, .int .i64 e, .int .i64 f] 3); simpa using this) (by simp; exact ⟨ha, hb, hc, hd, he, hf⟩))
  have HQ := Lib.hid hq
  clear hb2 hq ha hb hc hd he hf
  cases hall : [a, b, c, d, e, f].all fitsB
  · have HP := Lib.hid (mfitsl_is (some ⟨w.heap.size + 1, 0, none⟩) 6 [a, b, c, d, e, f] _ (by simp) HSI.out hall)
    have HQF : Hid (q = false) := Lib.hid (by rw [← HQ.out]; unfold sheetB; rw [hall]; rfl)
    clear hall
    go_enter Tryz.func29, Tryz.ntmps29
    go_wp2_with fail
    refine HP.out.mono ?_
    rintro en w2 ⟨rfl, hb⟩
    have HB3 := Lib.hid (belows_then HB2.out HB2.out.size hb)
    clear hb
    go_wp2_with fail
    go_ret
    rw [HQF.out]
    exact ⟨rfl, HB3.out⟩
  · have HP := Lib.hid (mfitsl_is (some ⟨w.heap.size + 1, 0, none⟩) 6 [a, b, c, d, e, f] _ (by simp) HSI.out hall)
    have HQT : Hid (q = (a == b + c + d + e + f)) := Lib.hid (by rw [← HQ.out]; unfold sheetB; rw [hall]; rfl)
    simp only [List.all_cons, List.all_nil, Bool.and_true, Bool.and_eq_true] at hall
    obtain ⟨k1, k2, k3, k4, k5, k6⟩ := hall
    have b1 := fit_bd k1; have b2 := fit_bd k2; have b3 := fit_bd k3; have b4 := fit_bd k4; have b5 := fit_bd k5; have b6 := fit_bd k6
    have w1 : IntKind.i64.wrap (b + c) = b + c := wrap_is (by omega) (by omega)
    have w2 : IntKind.i64.wrap (b + c + d) = b + c + d := wrap_is (by omega) (by omega)
    have w3 : IntKind.i64.wrap (b + c + d + e) = b + c + d + e := wrap_is (by omega) (by omega)
    have w4 : IntKind.i64.wrap (b + c + d + e + f) = b + c + d + e + f := wrap_is (by omega) (by omega)
    have v1 : wrap64 (b + c) = b + c := by unfold wrap64; omega
    have v2 : wrap64 (b + c + d) = b + c + d := by unfold wrap64; omega
    have v3 : wrap64 (b + c + d + e) = b + c + d + e := by unfold wrap64; omega
    have v4 : wrap64 (b + c + d + e + f) = b + c + d + e + f := by unfold wrap64; omega
    clear k1 k2 k3 k4 k5 k6 b1 b2 b3 b4 b5 b6
    go_enter Tryz.func29, Tryz.ntmps29
    go_wp2_with fail
    refine HP.out.mono ?_
    rintro en w2 ⟨rfl, hb⟩
    have HB3 := Lib.hid (belows_then HB2.out HB2.out.size hb)
    have hz := blk_cells (blk_below HZ2.out hb)
    have hzl := blk_lt (blk_below HZ2.out hb)
    clear hb
    go_wp2_with fail
    go_ret
    rw [HQT.out]
    exact ⟨by first | rfl | simp, HB3.out⟩
end Go.Proofs.YtfnmlpnncjhnmaaGreat


/- law 12: the first calls are as the document fixes them. -/
set_option linter.unusedVariables false
set_option linter.unusedSimpArgs false
namespace Go.Proofs.YtfnmlpnncjhnmaaGreat
open Go.RowKit Go.Maps Go.Deep

/-- a list that lies in one block, element behind element -/
theorem sl_block {P : Program} {e : TypeId} {α : Type} {T : Ty P e α} {w : World} {F : Nat → Prop} {b : Nat} (xs : List α) (css : List (List Value)) (hl : css.length = xs.length) (hn : ∀ c ∈ css, c.length = T.n)
    (hb : w.heap[b]? = some (.cells css.flatten.toArray e (0, 0))) (hF : F b) (hr : ∀ (i : Nat) (c : List Value) (x : α), css[i]? = some c → xs[i]? = some x → T.R w F c x) : Sl T w F (some ⟨b, 0, none⟩) xs := by
  intro i x hx
  have hil := (List.getElem?_eq_some_iff.1 hx).1
  have hci : css[i]? = some css[i] := List.getElem?_eq_getElem (by omega)
  refine ⟨_, css[i], rfl, hF, (Array.getElem?_eq_some_iff.1 hb).1, fun j u hu => ?_, hr i _ x hci hx⟩
  have hfl := flat_at hn i j _ u hci hu
  rw [Go.Addr.add_add]
  have : (⟨b, 0, none⟩ : Addr).add (i * T.n + j) = ⟨b, i * T.n + j, none⟩ := by unfold Addr.add; split <;> simp_all
  rw [this, cell_of_row w b _ _ e (0, 0) hb]
  simpa using hfl

set_option maxHeartbeats 8000000 in
set_option maxRecDepth 100000 in
theorem alive12 (w : World) : Calls Tryz.prog 25 #[] w fun e w' => e = .returned (.bool true) ∧ Below w.heap.size w w' := by
  have HBA := Lib.hid ((((Below.refl w.heap.size w).alloc (Nat.le_refl _) (.cells #[.int .i64 100, .int .i64 1, .bool false, .int .i64 400, .int .i64 4, .bool false] 83)).alloc (by simp) (.cells #[.int .i64 100, .int .i64 5, .int .i64 0, .int .i64 400, .int .i64 (-5), .int .i64 0] 85)).alloc (by simp; omega) (.cells #[.int .i64 1, .int .i64 1, .int .i64 3, .string ⟨#[]⟩, .slice (some ⟨w.heap.size + 1, 0, none⟩) 2 2, .bool false] 88))
  have HA1 : Hid (((((w.alloc (.cells #[.int .i64 100, .int .i64 1, .bool false, .int .i64 400, .int .i64 4, .bool false] 83)).alloc (.cells #[.int .i64 100, .int .i64 5, .int .i64 0, .int .i64 400, .int .i64 (-5), .int .i64 0] 85)).alloc (.cells #[.int .i64 1, .int .i64 1, .int .i64 3, .string ⟨#[]⟩, .slice (some ⟨w.heap.size + 1, 0, none⟩) 2 2, .bool false] 88))).heap[w.heap.size]? = some (.cells #[.int .i64 100, .int .i64 1, .bool false, .int .i64 400, .int .i64 4, .bool false] 83 (0, 0))) := Lib.hid (blk_alloc (blk_alloc (blk_new w (.cells #[.int .i64 100, .int .i64 1, .bool false, .int .i64 400, .int .i64 4, .bool false] 83)) (.cells #[.int .i64 100, .int .i64 5, .int .i64 0, .int .i64 400, .int .i64 (-5), .int .i64 0] 85)) (.cells #[.int .i64 1, .int .i64 1, .int .i64 3, .string ⟨#[]⟩, .slice (some ⟨w.heap.size + 1, 0, none⟩) 2 2, .bool false] 88))
  have HL1 : Hid (((((w.alloc (.cells #[.int .i64 100, .int .i64 1, .bool false, .int .i64 400, .int .i64 4, .bool false] 83)).alloc (.cells #[.int .i64 100, .int .i64 5, .int .i64 0, .int .i64 400, .int .i64 (-5), .int .i64 0] 85)).alloc (.cells #[.int .i64 1, .int .i64 1, .int .i64 3, .string ⟨#[]⟩, .slice (some ⟨w.heap.size + 1, 0, none⟩) 2 2, .bool false] 88))).heap[w.heap.size + 1]? = some (.cells #[.int .i64 100, .int .i64 5, .int .i64 0, .int .i64 400, .int .i64 (-5), .int .i64 0] 85 (0, 0))) := Lib.hid (by
    have := blk_alloc (blk_new (w.alloc (.cells #[.int .i64 100, .int .i64 1, .bool false, .int .i64 400, .int .i64 4, .bool false] 83)) (.cells #[.int .i64 100, .int .i64 5, .int .i64 0, .int .i64 400, .int .i64 (-5), .int .i64 0] 85)) (.cells #[.int .i64 1, .int .i64 1, .int .i64 3, .string ⟨#[]⟩, .slice (some ⟨w.heap.size + 1, 0, none⟩) 2 2, .bool false] 88)
    simpa using this)
  have HJ1 : Hid (((((w.alloc (.cells #[.int .i64 100, .int .i64 1, .bool false, .int .i64 400, .int .i64 4, .bool false] 83)).alloc (.cells #[.int .i64 100, .int .i64 5, .int .i64 0, .int .i64 400, .int .i64 (-5), .int .i64 0] 85)).alloc (.cells #[.int .i64 1, .int .i64 1, .int .i64 3, .string ⟨#[]⟩, .slice (some ⟨w.heap.size + 1, 0, none⟩) 2 2, .bool false] 88))).heap[w.heap.size + 2]? = some (.cells #[.int .i64 1, .int .i64 1, .int .i64 3, .string ⟨#[]⟩, .slice (some ⟨w.heap.size + 1, 0, none⟩) 2 2, .bool false] 88 (0, 0))) := Lib.hid (by
    have := blk_new ((w.alloc (.cells #[.int .i64 100, .int .i64 1, .bool false, .int .i64 400, .int .i64 4, .bool false] 83)).alloc (.cells #[.int .i64 100, .int .i64 5, .int .i64 0, .int .i64 400, .int .i64 (-5), .int .i64 0] 85)) (.cells #[.int .i64 1, .int .i64 1, .int .i64 3, .string ⟨#[]⟩, .slice (some ⟨w.heap.size + 1, 0, none⟩) 2 2, .bool false] 88)
    simpa using this)
  have HSA : Hid (Sl tAc (((w.alloc (.cells #[.int .i64 100, .int .i64 1, .bool false, .int .i64 400, .int .i64 4, .bool false] 83)).alloc (.cells #[.int .i64 100, .int .i64 5, .int .i64 0, .int .i64 400, .int .i64 (-5), .int .i64 0] 85)).alloc (.cells #[.int .i64 1, .int .i64 1, .int .i64 3, .string ⟨#[]⟩, .slice (some ⟨w.heap.size + 1, 0, none⟩) 2 2, .bool false] 88)) (fun _ => True) (some ⟨w.heap.size, 0, none⟩) r12) := Lib.hid (sl_block r12 [acs ⟨100, 1, false⟩, acs ⟨400, 4, false⟩] rfl (by simp; rfl) HA1.out trivial (fun i c x hi hx => by
    match i, hi, hx with
    | 0, hi, hx => simp [r12] at hi hx; subst hi; subst hx; exact ac_mk _ (by decide) (by decide)
    | 1, hi, hx => simp [r12] at hi hx; subst hi; subst hx; exact ac_mk _ (by decide) (by decide)
    | i + 2, hi, hx => simp at hi))
  have HSJ : Hid (Sl tJn (((w.alloc (.cells #[.int .i64 100, .int .i64 1, .bool false, .int .i64 400, .int .i64 4, .bool false] 83)).alloc (.cells #[.int .i64 100, .int .i64 5, .int .i64 0, .int .i64 400, .int .i64 (-5), .int .i64 0] 85)).alloc (.cells #[.int .i64 1, .int .i64 1, .int .i64 3, .string ⟨#[]⟩, .slice (some ⟨w.heap.size + 1, 0, none⟩) 2 2, .bool false] 88)) (fun _ => True) (some ⟨w.heap.size + 2, 0, none⟩) [j12]) :=
    Lib.hid (sl_oneJ (j := j12) (a := some ⟨w.heap.size + 1, 0, none⟩) (cap := 2) HJ1.out trivial (jn_mk j12 (by decide) (by decide) (by decide) (by decide) (sl_lines2 ⟨100, 5, 0⟩ ⟨400, -5, 0⟩ HL1.out trivial ⟨by decide, by decide, by decide⟩ ⟨by decide, by decide, by decide⟩) (by decide) (by decide) (by rw [line_bytes]; decide)))
  go_enter Tryz.func25, Tryz.ntmps25
  go_wp2_with fail
  refine (set_any r12 (some ⟨w.heap.size, 0, none⟩) 2 [j12] (some ⟨w.heap.size + 2, 0, none⟩) 1 _ HSA.out (by decide) HSJ.out (by decide)).mono ?_
  rintro en w1 ⟨c, g, ra, fa, ga, rc, fc, gc, mb, rfl, hc, hg, _, _, hb⟩
  rw [fit12] at hg
  rw [set12] at hc
  have HC := Lib.hid hc
  have HG := Lib.hid hg
  have HB1 := Lib.hid (belows_then HBA.out HBA.out.size hb)
  have hgood : GoodJ [j12] := by
    have := (fit_val 40 [j12]).good
    rwa [fit12] at this
  clear hc hg hb HBA HA1 HL1 HJ1 HSA HSJ
  generalize (setR r12).length = nr at *
  generalize (fitJ 40 [j12]).length = nj at *
  go_wp2_with fail
  refine (shMake_any HC.out HG.out (by decide) hgood 1 5 (by decide) sh12a).mono ?_
  rintro en w2 ⟨a1, m1, c1, a2, m2, c2, a3, m3, c3, rfl, hm, hm3, hb⟩
  rw [len12] at hm
  obtain rfl := hm rfl
  clear hm hm3
  have HB2 := Lib.hid (belows_then HB1.out HB1.out.size hb)
  have HBS : Hid (Below w2.heap.size w2 (w2.alloc (.cells #[.slice a1 1 c1, .slice a2 m2 c2, .slice a3 m3 c3, .int .i64 5, .int .i64 0, .int .i64 0, .int .i64 0, .int .i64 5, .int .i64 0] 75))) := Lib.hid ((Below.refl _ _).alloc (Nat.le_refl _) _)
  have HZ2 := Lib.hid (blk_new w2 (.cells #[.slice a1 1 c1, .slice a2 m2 c2, .slice a3 m3 c3, .int .i64 5, .int .i64 0, .int .i64 0, .int .i64 0, .int .i64 5, .int .i64 0] 75))
  have HB3 := Lib.hid (belows_then HB2.out HB2.out.size HBS.out)
  have HC3 := Lib.hid ((HC.out.below hb).below HBS.out)
  have HG3 := Lib.hid ((HG.out.below hb).below HBS.out)
  clear hb HC HG HB1
  go_wp2_with fail
  refine (shMake_any HC3.out HG3.out (by decide) hgood 1 14 (by decide) sh12b).mono ?_
  rintro en w4 ⟨b1, n1, d1, b2, n2, d2, b3, n3, d3, rfl, hm2, hm3, hb⟩
  clear hm2 hm3
  have HB4 := Lib.hid (belows_then HB3.out HB3.out.size hb)
  have HZ4 := Lib.hid (blk_below HZ2.out hb)
  have hz4 := blk_cells HZ4.out
  have hzl4 := blk_lt HZ4.out
  have HBF := Lib.hid (HB4.out.alloc HB4.out.size (.cells #[.slice b1 n1 d1, .slice b2 n2 d2, .slice b3 n3 d3, .int .i64 5, .int .i64 0, .int .i64 0, .int .i64 5, .int .i64 0, .int .i64 0] 75))
  clear hb HC3 HG3 HB3 HZ2 HBS
  go_wp2_with fail
  refine (shHolds_any (.slice a1 1 c1) (.slice a2 m2 c2) (.slice a3 m3 c3) 5 0 0 0 5 0 _ rfl (by decide) (by decide) (by decide) (by decide) (by decide) (by decide) (q := true) (by decide)).mono ?_
  rintro en w5 ⟨rfl, hb⟩
  have HB5 := Lib.hid (belows_then HBF.out HBF.out.size hb)
  have HZ5 := Lib.hid (blk_below (blk_new w4 (.cells #[.slice b1 n1 d1, .slice b2 n2 d2, .slice b3 n3 d3, .int .i64 5, .int .i64 0, .int .i64 0, .int .i64 5, .int .i64 0, .int .i64 0] 75)) hb)
  have hz5 := blk_cells HZ5.out
  have hzl5 := blk_lt HZ5.out
  have HZ6 := Lib.hid (blk_below (blk_alloc HZ4.out (.cells #[.slice b1 n1 d1, .slice b2 n2 d2, .slice b3 n3 d3, .int .i64 5, .int .i64 0, .int .i64 0, .int .i64 5, .int .i64 0, .int .i64 0] 75)) hb)
  have hz6 := blk_cells HZ6.out
  have hzl6 := blk_lt HZ6.out
  clear hb hz4 hzl4
  go_wp2_with fail
  go_ret
  exact ⟨rfl, HB5.out⟩
end Go.Proofs.YtfnmlpnncjhnmaaGreat
