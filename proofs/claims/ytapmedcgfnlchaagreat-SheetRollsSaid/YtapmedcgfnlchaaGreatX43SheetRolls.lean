/- law 12, alive, the plain side. -/
import Derived.Test.YtapmedcgfnlchaaGreatX36SheetRolls
import Derived.Test.YtapmedcgfnlchaaGreatX42SheetRolls
import Derived.Test.YtapmedcgfnlchaaGreatX26SheetRolls
import Derived.Test.YtapmedcgfnlchaaGreatX28SheetRolls
set_option linter.unusedVariables false
set_option linter.unusedSimpArgs false
namespace Go.Proofs.YtapmedcgfnlchaaGreat
open Go.RowKit Go.Maps Go.Deep

def j12 : Jn := ⟨1, 1, 3, ⟨#[]⟩, [⟨100, 5, 0⟩, ⟨400, -5, 0⟩], false⟩
def r12 : List Ac := [⟨100, 1, false⟩, ⟨400, 4, false⟩]
theorem j12_chk : chk j12 = 0 := by decide +kernel
theorem fit12 : fitJ 40 [j12] = [j12] := by
  have h1 : postJ [] j12 = 0 := post_mk j12_chk rfl (by simp [takenJ, j12]) (by simp)
  unfold fitJ
  simp only [List.foldl_cons, List.foldl_nil]
  unfold fitStep
  rw [h1]
  rfl
theorem set12 : setR r12 = r12 := by decide +kernel
theorem acc12a (t : Int) (h : 3 ≤ t) : linesOf [j12] 1 0 t = j12.lines := by
  unfold linesOf
  have : cnt 1 0 t j12 = true := by simp [cnt, j12, h]
  simp [this]
theorem bal12 (t : Int) (h : 3 ≤ t) (h2 : t ≤ 1199) : balT [j12] 1 0 t = ([(100, 5), (400, -5)], 0) := by
  have h1 : accR [j12] 1 0 t = [(100, 5), (400, -5)] := by
    unfold accR tellS
    rw [acc12a t h]
    have e : accS [] j12.lines = [(100, 5), (400, -5)] := by decide +kernel
    rw [e]
    have : srt ([((100 : Int), (5 : Int)), (400, -5)].map (·.1)) = [100, 400] := srt_id (l := [100, 400]) (by simp)
    rw [this]
    decide +kernel
  have hr : rightB 1 0 t = true := by
    unfold rightB
    simp [monthOk, entB]
    omega
  unfold balT
  rw [h1, hr]
  decide +kernel
theorem bal12n : balT [j12] 1 12 14 = ([], 0) := by
  have h1 : accR [j12] 1 12 14 = [] := by
    unfold accR tellS
    have e : accS [] (linesOf [j12] 1 12 14) = [] := by decide +kernel
    rw [e]
    have : srt (([] : List (Int × Int)).map (·.1)) = [] := srt_id (l := []) (by simp)
    rw [this]
    rfl
  unfold balT
  rw [h1]
  decide +kernel
theorem inc12 : incR r12 [(100, 5), (400, -5)] = ((5, 0, 5), 0) := by decide +kernel
theorem inc12n : incR r12 [] = ((0, 0, 0), 0) := by decide +kernel
theorem incM12 (t : Int) (h : 3 ≤ t) (h2 : t ≤ 1199) : incM r12 [j12] 1 0 t = ((5, 0, 5), 0) := by rw [incM_is (bal12 t h h2)]; exact inc12
theorem incM12n : incM r12 [j12] 1 12 14 = ((0, 0, 0), 0) := by rw [incM_is bal12n]; exact inc12n
theorem sh12a : shT r12 [j12] 1 5 = ((5, 0, 0, 0, 5, 0), 0) := by
  have h0 := bal12 5 (by omega) (by omega)
  have h1 : owT r12 [(100, 5), (400, -5)] = (5, 0) := by decide +kernel
  have h2 : oeT r12 [(100, 5), (400, -5)] = (0, 0) := by decide +kernel
  have h3 : heT r12 [(100, 5), (400, -5)] = (0, 0) := by decide +kernel
  have hj : janOf 5 = 0 := by decide
  have h4 : retT r12 [j12] 1 5 = (0, 0) := by unfold retT; rw [hj]; rfl
  have h5 : curT r12 [j12] 1 5 = (5, 0) := by unfold curT; rw [hj, incM12 5 (by omega) (by omega)]
  have h6 : otT r12 [(100, 5), (400, -5)] = (0, 0) := by decide +kernel
  unfold shT shE
  simp only [h0, h1, h2, h3, h4, h5, h6]
  rfl
theorem sh12b : shT r12 [j12] 1 14 = ((5, 0, 0, 5, 0, 0), 0) := by
  have h0 := bal12 14 (by omega) (by omega)
  have h1 : owT r12 [(100, 5), (400, -5)] = (5, 0) := by decide +kernel
  have h2 : oeT r12 [(100, 5), (400, -5)] = (0, 0) := by decide +kernel
  have h3 : heT r12 [(100, 5), (400, -5)] = (0, 0) := by decide +kernel
  have hj : janOf 14 = 12 := by decide
  have h4 : retT r12 [j12] 1 14 = (5, 0) := by unfold retT; rw [hj, show (12 : Int) - 1 = 11 from rfl, incM12 11 (by omega) (by omega)]; rfl
  have h5 : curT r12 [j12] 1 14 = (0, 0) := by unfold curT; rw [hj, incM12n]
  have h6 : otT r12 [(100, 5), (400, -5)] = (0, 0) := by decide +kernel
  unfold shT shE
  simp only [h0, h1, h2, h3, h4, h5, h6]
  rfl
theorem len12 : ((balT [j12] 1 0 5).1.filter (pickB r12 [1])).length = 1 := by rw [bal12 5 (by omega) (by omega)]; decide +kernel
end Go.Proofs.YtapmedcgfnlchaaGreat


/- sheet.Holds: are both sides of a sheet alike? -/
set_option linter.unusedVariables false
set_option linter.unusedSimpArgs false
namespace Go.Proofs.YtapmedcgfnlchaaGreat
open Go.RowKit Go.Maps Go.Deep

theorem sl_intsB {w : World} {b : Nat} (xs : List Int) (hb : w.heap[b]? = some (.cells (xs.map (Value.int .i64)).toArray 3 (0, 0))) (h : ∀ x ∈ xs, I64 x) : Sl tInt w (fun _ => True) (some ⟨b, 0, none⟩) xs := by
  intro i x hx
  have hlt : i < xs.length := (List.getElem?_eq_some_iff.1 hx).1
  refine ⟨_, [.int .i64 x], rfl, trivial, (Array.getElem?_eq_some_iff.1 hb).1, fun j v hv => ?_, rfl, h x (List.mem_of_getElem? hx)⟩
  cases j with
  | succ j => simp at hv
  | zero =>
    simp at hv
    subst hv
    rw [Go.Addr.add_add]
    have : (⟨b, 0, none⟩ : Addr).add (i * tInt.n + 0) = ⟨b, i, none⟩ := by
      have e : i * tInt.n + 0 = i := by show i * 1 + 0 = i; omega
      rw [e]
      unfold Addr.add
      split <;> simp_all
    rw [this, cell_of_row w b i _ 3 (0, 0) hb]
    simp [hx]

def sheetB (a b c d e f : Int) : Bool := [a, b, c, d, e, f].all fitsB && a == b + c + d + e + f
theorem fit_bd {n : Int} (h : fitsB n = true) : -1000000000000000 ≤ n ∧ n ≤ 1000000000000000 := by simpa [fitsB] using h

set_option maxHeartbeats 4000000 in
set_option maxRecDepth 100000 in
theorem shHolds_any (vA vL vE : Value) (a b c d e f : Int) (w : World) (hA : vA.oneCell' = true) (ha : I64 a) (hb : I64 b) (hc : I64 c) (hd : I64 d) (he : I64 e) (hf : I64 f) {q : Bool} (hq : sheetB a b c d e f = q) :
    Calls Tryz.prog 18 #[.agg #[vA, vL, vE, .int .i64 a, .int .i64 b, .int .i64 c, .int .i64 d, .int .i64 e, .int .i64 f]] w fun en w' => en = .returned (.bool q) ∧ Below w.heap.size w w' := by
  have hb2 := ((Below.refl w.heap.size w).alloc (Nat.le_refl _) (.cells #[vA, vL, vE, .int .i64 a, .int .i64 b, .int .i64 c, .int .i64 d, .int .i64 e, .int .i64 f] 49)).alloc (by simp) (.cells #[.int .i64 a, .int .i64 b, .int .i64 c, .int .i64 d, .int .i64 e, .int .i64 f] 3)
  have HB2 := Lib.hid hb2
  have HZ2 := Lib.hid (blk_alloc (blk_new w (.cells #[vA, vL, vE, .int .i64 a, .int .i64 b, .int .i64 c, .int .i64 d, .int .i64 e, .int .i64 f] 49)) (.cells #[.int .i64 a, .int .i64 b, .int .i64 c, .int .i64 d, .int .i64 e, .int .i64 f] 3))
  have HSI : Hid (Sl tInt ((w.alloc (.cells #[vA, vL, vE, .int .i64 a, .int .i64 b, .int .i64 c, .int .i64 d, .int .i64 e, .int .i64 f] 49)).alloc (.cells #[.int .i64 a, .int .i64 b, .int .i64 c, .int .i64 d, .int .i64 e, .int .i64 f] 3)) (fun _ => True) (some ⟨w.heap.size + 1, 0, none⟩) [a, b, c, d, e, f]) := Lib.hid (sl_intsB [a, b, c, d, e, f] (by have := blk_new (w.alloc (.cells #[vA, vL, vE, .int .i64 a, .int .i64 b, .int .i64 c, .int .i64 d, .int .i64 e, .int .i64 f] 49)) (.cells #[.int .i64 a, .int .i64 b, .int .i64 c, .int .i64 d, .int .i64 e, .int .i64 f] 3); simpa using this) (by simp; exact ⟨ha, hb, hc, hd, he, hf⟩))
  have HQ := Lib.hid hq
  clear hb2 hq ha hb hc hd he hf
  cases hall : [a, b, c, d, e, f].all fitsB
  · have HP := Lib.hid (mfitsl_is (some ⟨w.heap.size + 1, 0, none⟩) 6 [a, b, c, d, e, f] _ (by simp) HSI.out hall)
    have HQF : Hid (q = false) := Lib.hid (by rw [← HQ.out]; unfold sheetB; rw [hall]; rfl)
    clear hall
    go_enter Tryz.func18, Tryz.ntmps18
    go_wp2_with fail
    refine HP.out.mono ?_
    rintro en w2 ⟨rfl, hb⟩
    have HB3 := Lib.hid (belows_then HB2.out HB2.out.size hb)
    clear hb
    go_wp2_with fail
    go_ret
    rw [HQF.out]
    exact ⟨rfl, HB3.out⟩
  · have HP := Lib.hid (mfitsl_is (some ⟨w.heap.size + 1, 0, none⟩) 6 [a, b, c, d, e, f] _ (by simp) HSI.out hall)
    have HQT : Hid (q = (a == b + c + d + e + f)) := Lib.hid (by rw [← HQ.out]; unfold sheetB; rw [hall]; rfl)
    simp only [List.all_cons, List.all_nil, Bool.and_true, Bool.and_eq_true] at hall
    obtain ⟨k1, k2, k3, k4, k5, k6⟩ := hall
    have b1 := fit_bd k1; have b2 := fit_bd k2; have b3 := fit_bd k3; have b4 := fit_bd k4; have b5 := fit_bd k5; have b6 := fit_bd k6
    have w1 : IntKind.i64.wrap (b + c) = b + c := wrap_is (by omega) (by omega)
    have w2 : IntKind.i64.wrap (b + c + d) = b + c + d := wrap_is (by omega) (by omega)
    have w3 : IntKind.i64.wrap (b + c + d + e) = b + c + d + e := wrap_is (by omega) (by omega)
    have w4 : IntKind.i64.wrap (b + c + d + e + f) = b + c + d + e + f := wrap_is (by omega) (by omega)
    have v1 : wrap64 (b + c) = b + c := by unfold wrap64; omega
    have v2 : wrap64 (b + c + d) = b + c + d := by unfold wrap64; omega
    have v3 : wrap64 (b + c + d + e) = b + c + d + e := by unfold wrap64; omega
    have v4 : wrap64 (b + c + d + e + f) = b + c + d + e + f := by unfold wrap64; omega
    clear k1 k2 k3 k4 k5 k6 b1 b2 b3 b4 b5 b6
    go_enter Tryz.func18, Tryz.ntmps18
    go_wp2_with fail
    refine HP.out.mono ?_
    rintro en w2 ⟨rfl, hb⟩
    have HB3 := Lib.hid (belows_then HB2.out HB2.out.size hb)
    have hz := blk_cells (blk_below HZ2.out hb)
    have hzl := blk_lt (blk_below HZ2.out hb)
    clear hb
    go_wp2_with fail
    go_ret
    rw [HQT.out]
    exact ⟨by first | rfl | simp, HB3.out⟩
end Go.Proofs.YtapmedcgfnlchaaGreat
