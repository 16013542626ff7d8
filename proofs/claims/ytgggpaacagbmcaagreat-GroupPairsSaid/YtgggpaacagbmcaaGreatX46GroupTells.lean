/- law 12, alive, the plain side. -/
import Derived.Test.YtgggpaacagbmcaaGreatX19GroupTells
import Derived.Test.YtgggpaacagbmcaaGreatX45GroupTells
import Derived.Test.YtgggpaacagbmcaaGreatX18GroupTells
import Derived.Deep.RegionHeld3
import Derived.Test.YtgggpaacagbmcaaGreatX39GroupTells
import Derived.Test.YtgggpaacagbmcaaGreatX28GroupTells
import Derived.Test.YtgggpaacagbmcaaGreatX14GroupTells
import Derived.Test.YtgggpaacagbmcaaGreatX38GroupTells
import Derived.Test.YtgggpaacagbmcaaGreatX26GroupTells
set_option linter.unusedVariables false
set_option linter.unusedSimpArgs false
namespace Go.Proofs.YtgggpaacagbmcaaGreat
open Go.RowKit Go.Maps Go.Deep

def j12 : Jn := ⟨1, 1, 3, ⟨#[]⟩, [⟨100, 5, 0⟩, ⟨400, -5, 0⟩], false⟩
def r12 : List Ac := [⟨100, 1, false⟩, ⟨400, 4, false⟩]
theorem j12_chk : chk j12 = 0 := by decide +kernel
theorem fit12 : fitJ 40 [j12] = [j12] := by
  have h1 : postJ [] j12 = 0 := post_mk j12_chk rfl (by simp [takenJ, j12]) (by simp)
  unfold fitJ
  simp only [List.foldl_cons, List.foldl_nil]
  unfold fitStep
  rw [h1]
  rfl
theorem set12 : setR r12 = r12 := by decide +kernel
theorem acc12a (t : Int) (h : 3 ≤ t) : linesOf [j12] 1 0 t = j12.lines := by
  unfold linesOf
  have : cnt 1 0 t j12 = true := by simp [cnt, j12, h]
  simp [this]
theorem bal12 (t : Int) (h : 3 ≤ t) (h2 : t ≤ 1199) : balT [j12] 1 0 t = ([(100, 5), (400, -5)], 0) := by
  have h1 : accR [j12] 1 0 t = [(100, 5), (400, -5)] := by
    unfold accR tellS
    rw [acc12a t h]
    have e : accS [] j12.lines = [(100, 5), (400, -5)] := by decide +kernel
    rw [e]
    have : srt ([((100 : Int), (5 : Int)), (400, -5)].map (·.1)) = [100, 400] := srt_id (l := [100, 400]) (by simp)
    rw [this]
    decide +kernel
  have hr : rightB 1 0 t = true := by
    unfold rightB
    simp [monthOk, entB]
    omega
  unfold balT
  rw [h1, hr]
  decide +kernel
theorem bal12n : balT [j12] 1 12 14 = ([], 0) := by
  have h1 : accR [j12] 1 12 14 = [] := by
    unfold accR tellS
    have e : accS [] (linesOf [j12] 1 12 14) = [] := by decide +kernel
    rw [e]
    have : srt (([] : List (Int × Int)).map (·.1)) = [] := srt_id (l := []) (by simp)
    rw [this]
    rfl
  unfold balT
  rw [h1]
  decide +kernel
theorem inc12 : incR r12 [(100, 5), (400, -5)] = ((5, 0, 5), 0) := by decide +kernel
theorem inc12n : incR r12 [] = ((0, 0, 0), 0) := by decide +kernel
theorem incM12 (t : Int) (h : 3 ≤ t) (h2 : t ≤ 1199) : incM r12 [j12] 1 0 t = ((5, 0, 5), 0) := by rw [incM_is (bal12 t h h2)]; exact inc12
theorem incM12n : incM r12 [j12] 1 12 14 = ((0, 0, 0), 0) := by rw [incM_is bal12n]; exact inc12n
theorem sh12a : shT r12 [j12] 1 5 = ((5, 0, 0, 0, 5, 0), 0) := by
  have h0 := bal12 5 (by omega) (by omega)
  have h1 : owT r12 [(100, 5), (400, -5)] = (5, 0) := by decide +kernel
  have h2 : oeT r12 [(100, 5), (400, -5)] = (0, 0) := by decide +kernel
  have h3 : heT r12 [(100, 5), (400, -5)] = (0, 0) := by decide +kernel
  have hj : janOf 5 = 0 := by decide
  have h4 : retT r12 [j12] 1 5 = (0, 0) := by unfold retT; rw [hj]; rfl
  have h5 : curT r12 [j12] 1 5 = (5, 0) := by unfold curT; rw [hj, incM12 5 (by omega) (by omega)]
  have h6 : otT r12 [(100, 5), (400, -5)] = (0, 0) := by decide +kernel
  unfold shT shE
  simp only [h0, h1, h2, h3, h4, h5, h6]
  rfl
theorem sh12b : shT r12 [j12] 1 14 = ((5, 0, 0, 5, 0, 0), 0) := by
  have h0 := bal12 14 (by omega) (by omega)
  have h1 : owT r12 [(100, 5), (400, -5)] = (5, 0) := by decide +kernel
  have h2 : oeT r12 [(100, 5), (400, -5)] = (0, 0) := by decide +kernel
  have h3 : heT r12 [(100, 5), (400, -5)] = (0, 0) := by decide +kernel
  have hj : janOf 14 = 12 := by decide
  have h4 : retT r12 [j12] 1 14 = (5, 0) := by unfold retT; rw [hj, show (12 : Int) - 1 = 11 from rfl, incM12 11 (by omega) (by omega)]; rfl
  have h5 : curT r12 [j12] 1 14 = (0, 0) := by unfold curT; rw [hj, incM12n]
  have h6 : otT r12 [(100, 5), (400, -5)] = (0, 0) := by decide +kernel
  unfold shT shE
  simp only [h0, h1, h2, h3, h4, h5, h6]
  rfl
theorem len12 : ((balT [j12] 1 0 5).1.filter (pickB r12 [1])).length = 1 := by rw [bal12 5 (by omega) (by omega)]; decide +kernel
end Go.Proofs.YtgggpaacagbmcaaGreat


/- sheet.Holds: are both sides of a sheet alike? -/
set_option linter.unusedVariables false
set_option linter.unusedSimpArgs false
namespace Go.Proofs.YtgggpaacagbmcaaGreat
open Go.RowKit Go.Maps Go.Deep

def sheetB (a b c d e f : Int) : Bool := [a, b, c, d, e, f].all fitsB && a == b + c + d + e + f
theorem fit_bd {n : Int} (h : fitsB n = true) : -1000000000000000 ≤ n ∧ n ≤ 1000000000000000 := by simpa [fitsB] using h

end Go.Proofs.YtgggpaacagbmcaaGreat


/- law 12: the first calls are as the document fixes them. -/
set_option linter.unusedVariables false
set_option linter.unusedSimpArgs false
namespace Go.Proofs.YtgggpaacagbmcaaGreat
open Go.RowKit Go.Maps Go.Deep

/-- a list that lies in one block, element behind element -/
theorem sl_block {P : Program} {e : TypeId} {α : Type} {T : Ty P e α} {w : World} {F : Nat → Prop} {b : Nat} (xs : List α) (css : List (List Value)) (hl : css.length = xs.length) (hn : ∀ c ∈ css, c.length = T.n)
    (hb : w.heap[b]? = some (.cells css.flatten.toArray e (0, 0))) (hF : F b) (hr : ∀ (i : Nat) (c : List Value) (x : α), css[i]? = some c → xs[i]? = some x → T.R w F c x) : Sl T w F (some ⟨b, 0, none⟩) xs := by
  intro i x hx
  have hil := (List.getElem?_eq_some_iff.1 hx).1
  have hci : css[i]? = some css[i] := List.getElem?_eq_getElem (by omega)
  refine ⟨_, css[i], rfl, hF, (Array.getElem?_eq_some_iff.1 hb).1, fun j u hu => ?_, hr i _ x hci hx⟩
  have hfl := flat_at hn i j _ u hci hu
  rw [Go.Addr.add_add]
  have : (⟨b, 0, none⟩ : Addr).add (i * T.n + j) = ⟨b, i * T.n + j, none⟩ := by unfold Addr.add; split <;> simp_all
  rw [this, cell_of_row w b _ _ e (0, 0) hb]
  simpa using hfl

end Go.Proofs.YtgggpaacagbmcaaGreat


/- law 14's refs: the members as the document has them. -/
set_option linter.unusedVariables false
set_option linter.unusedSimpArgs false
namespace Go.Proofs.YtgggpaacagbmcaaGreat
open Go.RowKit Go.Maps Go.Deep

theorem infoRm : (Tryz.prog.info? 90).map (fun i => (i.zero, i.size, i.bytes)) = some (some (.agg #[.int .i64 0, .int .i64 0, .int .i64 0, .int .i64 0, .int .i64 0]), 5, 40) := by kernel_rfl
set_option maxHeartbeats 8000000 in
set_option maxRecDepth 100000 in
theorem refs_any (l : List Mb) (a : Option Addr) (cap : Nat) (w : World) {F : Nat → Prop} (hs : Sl tMb w F a l) (hl : l.length ≤ 1000) :
    Calls Tryz.prog 9 #[.slice a l.length cap] w fun e w' => ∃ v, e = .returned v ∧ OwnL tRm w' w.heap.size v l ∧ Below w.heap.size w w' := by
  have HS := Lib.hid hs
  clear hs
  obtain ⟨i0, hi, hz0, hz1, hz2⟩ := info_parts infoRm
  go_enter Tryz.func9, Tryz.ntmps9
  go_wp2_with fail
  go_loopw [3, 4] (fun vo vi wr => ∃ (n : Nat) (vx : Value), vx = vo ∧ n ≤ l.length ∧ vi = .int .i64 n ∧ OwnL tRm wr w.heap.size vx (l.take n) ∧ Below w.heap.size w wr) (fun _ vi _ => l.length - (intOf vi).toNat)
  case atStart => exact ⟨0, _, rfl, Nat.zero_le _, rfl, OwnL.nil _ _, Below.refl _ _⟩
  case round =>
    obtain ⟨n, vo, rfl, hn, rfl, ho, hb⟩ := hrel
    have HO := Lib.hid ho
    have HB := Lib.hid hb
    clear ho hb
    by_cases hlt : n < l.length
    · obtain ⟨ad, rfl, _, hadl, hc0, hc1, hc2, hc3, hc4, hwf⟩ := mb_at HS.out n hlt
      have HTS : Hid (l.take (n + 1) = l.take n ++ [l[n]]) := Lib.hid (List.take_succ_eq_append_getElem hlt)
      have hnl : (l.take n).length ≤ 1000 := by rw [List.length_take]; omega
      obtain ⟨X, hX⟩ : ∃ X, l.take n = X := ⟨_, rfl⟩
      rw [hX] at HO HTS hnl
      clear hX
      generalize l[n] = m at *
      obtain ⟨en, sh, cl, av, ol⟩ := m
      simp only at hc0 hc1 hc2 hc3 hc4
      have HWF := Lib.hid hwf
      have HOA : Hid (OwnL tRm ((wr.alloc (.cells #[.int .i64 en, .int .i64 sh, .int .i64 cl, .int .i64 av, .int .i64 ol] 90)).drew) w.heap.size vo X) := Lib.hid ((HO.out.alloc (.cells #[.int .i64 en, .int .i64 sh, .int .i64 cl, .int .i64 av, .int .i64 ol] 90)).keep (Nat.le_refl _) (fun _ _ => rfl))
      have HBA := Lib.hid ((HB.out.alloc HB.out.size (.cells #[.int .i64 en, .int .i64 sh, .int .i64 cl, .int .i64 av, .int .i64 ol] 90)).drew)
      have hbn : (wr.alloc (.cells #[.int .i64 en, .int .i64 sh, .int .i64 cl, .int .i64 av, .int .i64 ol] 90)).drew.heap[wr.heap.size]? = _ := blk_new wr (.cells #[.int .i64 en, .int .i64 sh, .int .i64 cl, .int .i64 av, .int .i64 ol] 90)
      have HSP : Hid (Sl tRm ((wr.alloc (.cells #[.int .i64 en, .int .i64 sh, .int .i64 cl, .int .i64 av, .int .i64 ol] 90)).drew) (fun kk => some kk ≠ vo.ownBlock ∧ kk < ((wr.alloc (.cells #[.int .i64 en, .int .i64 sh, .int .i64 cl, .int .i64 av, .int .i64 ol] 90)).drew).heap.size) (some ⟨wr.heap.size, 0, none⟩) [(⟨en, sh, cl, av, ol⟩ : Mb)]) := Lib.hid (sl_block [(⟨en, sh, cl, av, ol⟩ : Mb)] [mbC ⟨en, sh, cl, av, ol⟩] rfl (by simp; rfl) hbn ⟨fun e => by have := (HO.out.lt _ e.symm).2; exact absurd this (Nat.lt_irrefl _), blk_lt hbn⟩ (fun i c x hi hx => by
        match i, hi, hx with
        | 0, hi, hx => simp at hi hx; subst hi; subst hx; exact rm_mk _ HWF.out
        | i + 1, hi, hx => simp at hi))
      have HCE : Hid (∀ W, Below w.heap.size w W → (W.cell? (ad.add (n * 5)) = some (.int .i64 en) ∧ W.cell? ⟨(ad.add (n * 5)).block, (ad.add (n * 5)).off + 1, none⟩ = some (.int .i64 sh) ∧ W.cell? ⟨(ad.add (n * 5)).block, (ad.add (n * 5)).off + 2, none⟩ = some (.int .i64 cl) ∧ W.cell? ⟨(ad.add (n * 5)).block, (ad.add (n * 5)).off + 2 + 1, none⟩ = some (.int .i64 av) ∧ W.cell? ⟨(ad.add (n * 5)).block, (ad.add (n * 5)).off + 2 + 2, none⟩ = some (.int .i64 ol))) := Lib.hid (fun W hb => by
        have hbk : W.heap[(ad.add (n * 5)).block]? = w.heap[(ad.add (n * 5)).block]? := by rw [add_block]; exact hb.block _ hadl
        exact ⟨by rw [← hc0]; exact World.cell?_of_block (w := w) hbk, by rw [← hc1]; exact World.cell?_of_block (w := w) hbk, by rw [← hc2]; exact World.cell?_of_block (w := w) hbk, by rw [← hc3]; exact World.cell?_of_block (w := w) hbk, by rw [← hc4]; exact World.cell?_of_block (w := w) hbk⟩)
      have HBD : Hid (Below w.heap.size w wr.drew) := Lib.hid HB.out.drew
      have h63 : X.length + [(⟨en, sh, cl, av, ol⟩ : Mb)].length ≤ maxLen := by simp only [List.length_cons, List.length_nil]; unfold maxLen; omega
      have hby : (X.length + [(⟨en, sh, cl, av, ol⟩ : Mb)].length) * 40 ≤ 140737488355328 := by simp only [List.length_cons, List.length_nil]; omega
      clear hc0 hc1 hc2 hc3 hc4 hwf hbn
      go_wp2_with fail
      go_region_held3 (fun w' => w'.cell? (ad.add (n * 5)) = some (.int .i64 en) ∧ w'.cell? ⟨(ad.add (n * 5)).block, (ad.add (n * 5)).off + 1, none⟩ = some (.int .i64 sh) ∧ w'.cell? ⟨(ad.add (n * 5)).block, (ad.add (n * 5)).off + 2, none⟩ = some (.int .i64 cl) ∧ w'.cell? ⟨(ad.add (n * 5)).block, (ad.add (n * 5)).off + 2 + 1, none⟩ = some (.int .i64 av) ∧ w'.cell? ⟨(ad.add (n * 5)).block, (ad.add (n * 5)).off + 2 + 2, none⟩ = some (.int .i64 ol)) (first | with_reducible exact HCE.out _ HB6.out | with_reducible exact HCE.out _ HBA.out | with_reducible exact HCE.out _ HBD.out) ((refine step_app (T := tRm) rfl (.tmp 11) (.tmp 42) 31 rfl i0 (.agg #[.int .i64 0, .int .i64 0, .int .i64 0, .int .i64 0, .int .i64 0]) 40 Tryz.underlying31 hi hz0 hz1 hz2 rfl (by decide) rm_one w.heap.size vo X (by simp [Act.eval, Act.put]) HOA.out ⟨wr.heap.size, 0, none⟩ 1 [(⟨en, sh, cl, av, ol⟩ : Mb)] (by simp [Act.eval, Act.put]) HSP.out h63 hby HBA.out.size ?_; intro v6 w6 hown hg hat; have HO6 := Lib.hid hown; have HB6 := Lib.hid (Below.grown HBA.out hg HBA.out.size (fun k e => (HOA.out.lt k e).1)); clear hown hg hat))
      all_goals
        go_wp2_with fail
        go_roundw
        case rel => exact ⟨n + 1, _, rfl, by omega, by go_num, by rw [HTS.out]; exact HO6.out, HB6.out⟩
        case measure => simp [intOf]; omega
    · have HL : Hid (l.take n = l) := Lib.hid (take_all hn hlt)
      have ho := HO.out
      rw [HL.out] at ho
      have HOW := Lib.hid ho
      clear ho
      go_wp2_with fail
      go_ret
      exact ⟨_, rfl, HOW.out, HB.out⟩
end Go.Proofs.YtgggpaacagbmcaaGreat


/- law 14: the first call is as the document fixes it. -/
set_option linter.unusedVariables false
set_option linter.unusedSimpArgs false
namespace Go.Proofs.YtgggpaacagbmcaaGreat
open Go.RowKit Go.Maps Go.Deep

def j14 : Jn := ⟨1, 1, 3, ⟨#[]⟩, [⟨100, 8, 0⟩, ⟨300, -8, 0⟩], false⟩
def r14 : List Ac := [⟨100, 1, false⟩, ⟨300, 3, false⟩]
def m14 : Mb := ⟨1, 7500, 1000000, 1000000, 1000000⟩
theorem j14_chk : chk j14 = 0 := by decide +kernel
theorem fit14 : fitJ 40 [j14] = [j14] := by
  have h1 : postJ [] j14 = 0 := post_mk j14_chk rfl (by simp [takenJ, j14]) (by simp)
  unfold fitJ
  simp only [List.foldl_cons, List.foldl_nil]
  unfold fitStep
  rw [h1]
  rfl
theorem val14 : ValJ [j14] := by
  have := fit_val 40 [j14]
  rwa [fit14] at this
theorem set14 : setR r14 = r14 := by decide +kernel
theorem acc14 : accR [j14] 1 0 5 = [(100, 8), (300, -8)] := by
  unfold accR tellS
  have e : accS [] (linesOf [j14] 1 0 5) = [(100, 8), (300, -8)] := by decide +kernel
  rw [e]
  have : srt ([((100 : Int), (8 : Int)), (300, -8)].map (·.1)) = [100, 300] := srt_id (l := [100, 300]) (by simp)
  rw [this]
  decide +kernel
theorem lin14 : linT [m14] [j14] m14.en 5 = (([(100, 8), (300, -8)], 0), 0) := by
  show linT [oneM 1 7500] [j14] 1 5 = _
  rw [lin_one val14, acc14]
  rfl
theorem mem14 : memE r14 [m14] [j14] 5 m14 = 0 ∧ memP r14 [m14] [j14] 5 m14 = ⟨[(100, 8), (300, -8)], 0, 0, -2⟩ := by
  have h2 : trnT r14 m14 [(100, 8), (300, -8)] = (([(100, 8), (300, -8)], 0), 0) := by decide +kernel
  obtain ⟨h, h'⟩ := memE_is lin14 h2 (s := 0) (es := 0) (by decide +kernel) (a := 0) (ea := 0) (by decide +kernel) (b := -8) (eb := 0) (by decide +kernel) (x := -2) (ex := 0) (by decide +kernel)
  exact ⟨h, h' rfl⟩
theorem mak14 : makT r14 [m14] [j14] 5 = (⟨[(100, 8), (300, -8)], 0, 0, -2, 8, 0, 6⟩, 0) := by
  have hg : (grpB [m14] && monthOk 5) = true := by decide +kernel
  unfold makT
  rw [if_pos hg]
  have hm : memsE r14 [m14] [j14] 5 [m14] = 0 := memsE_none r14 [m14] [j14] 5 [m14] (fun m hm => by rw [List.mem_singleton.1 hm]; exact mem14.1)
  have hr : grpT r14 [m14] [j14] 5 = resT r14 ([m14].map (memP r14 [m14] [j14] 5)) := by
    unfold grpT resT
    rw [hm]
    rfl
  rw [hr]
  simp only [List.map_cons, List.map_nil, mem14.2]
  have hB : plusT (([(⟨[(100, 8), (300, -8)], 0, 0, -2⟩ : Part)].map (·.l)).flatten ++ []) = ([(100, 8), (300, -8)], 0) := by
    show plusT [((100 : Int), (8 : Int)), (300, -8)] = _
    exact plus_self (by simp) (by decide +kernel) (by decide +kernel)
  rw [resT_is hB (pl := 0) (e5 := 0) (by decide +kernel) (ou := 0) (e6 := 0) (by decide +kernel) (ot := -2) (e7 := 0) (by decide +kernel) (ow := 8) (e1 := 0) (by decide +kernel) (od := 0) (e2 := 0) (by decide +kernel) (on := 6) (e3 := 0) (by decide +kernel)]
  rfl
theorem mb_block {w : World} {b : Nat} {m : Mb} (hb : w.heap[b]? = some (.cells #[.int .i64 m.en, .int .i64 m.sh, .int .i64 m.cl, .int .i64 m.av, .int .i64 m.ol] 72 (0, 0))) (hw : m.wf) : Sl tMb w (fun _ => True) (some ⟨b, 0, none⟩) [m] :=
  sl_block [m] [mbC m] rfl (by simp; rfl) hb trivial (fun i c x hi hx => by
    match i, hi, hx with
    | 0, hi, hx => simp at hi hx; subst hi; subst hx; exact mb_mk _ hw
    | i + 1, hi, hx => simp at hi)

set_option maxHeartbeats 8000000 in
set_option maxRecDepth 100000 in
theorem alive14 (w : World) : Calls Tryz.prog 7 #[] w fun e w' => e = .returned (.bool true) ∧ Below w.heap.size w w' := by
  have HA1 : Hid (((((w.alloc (.cells #[.int .i64 100, .int .i64 1, .bool false, .int .i64 300, .int .i64 3, .bool false] 79)).alloc (.cells #[.int .i64 100, .int .i64 8, .int .i64 0, .int .i64 300, .int .i64 (-8), .int .i64 0] 74)).alloc (.cells #[.int .i64 1, .int .i64 1, .int .i64 3, .string ⟨#[]⟩, .slice (some ⟨w.heap.size + 1, 0, none⟩) 2 2, .bool false] 81))).heap[w.heap.size]? = some (.cells #[.int .i64 100, .int .i64 1, .bool false, .int .i64 300, .int .i64 3, .bool false] 79 (0, 0))) := Lib.hid (blk_alloc (blk_alloc (blk_new w (.cells #[.int .i64 100, .int .i64 1, .bool false, .int .i64 300, .int .i64 3, .bool false] 79)) (.cells #[.int .i64 100, .int .i64 8, .int .i64 0, .int .i64 300, .int .i64 (-8), .int .i64 0] 74)) (.cells #[.int .i64 1, .int .i64 1, .int .i64 3, .string ⟨#[]⟩, .slice (some ⟨w.heap.size + 1, 0, none⟩) 2 2, .bool false] 81))
  have HL1 : Hid (((((w.alloc (.cells #[.int .i64 100, .int .i64 1, .bool false, .int .i64 300, .int .i64 3, .bool false] 79)).alloc (.cells #[.int .i64 100, .int .i64 8, .int .i64 0, .int .i64 300, .int .i64 (-8), .int .i64 0] 74)).alloc (.cells #[.int .i64 1, .int .i64 1, .int .i64 3, .string ⟨#[]⟩, .slice (some ⟨w.heap.size + 1, 0, none⟩) 2 2, .bool false] 81))).heap[w.heap.size + 1]? = some (.cells #[.int .i64 100, .int .i64 8, .int .i64 0, .int .i64 300, .int .i64 (-8), .int .i64 0] 74 (0, 0))) := Lib.hid (by
    have := blk_alloc (blk_new (w.alloc (.cells #[.int .i64 100, .int .i64 1, .bool false, .int .i64 300, .int .i64 3, .bool false] 79)) (.cells #[.int .i64 100, .int .i64 8, .int .i64 0, .int .i64 300, .int .i64 (-8), .int .i64 0] 74)) (.cells #[.int .i64 1, .int .i64 1, .int .i64 3, .string ⟨#[]⟩, .slice (some ⟨w.heap.size + 1, 0, none⟩) 2 2, .bool false] 81)
    simpa using this)
  have HJ1 : Hid (((((w.alloc (.cells #[.int .i64 100, .int .i64 1, .bool false, .int .i64 300, .int .i64 3, .bool false] 79)).alloc (.cells #[.int .i64 100, .int .i64 8, .int .i64 0, .int .i64 300, .int .i64 (-8), .int .i64 0] 74)).alloc (.cells #[.int .i64 1, .int .i64 1, .int .i64 3, .string ⟨#[]⟩, .slice (some ⟨w.heap.size + 1, 0, none⟩) 2 2, .bool false] 81))).heap[w.heap.size + 2]? = some (.cells #[.int .i64 1, .int .i64 1, .int .i64 3, .string ⟨#[]⟩, .slice (some ⟨w.heap.size + 1, 0, none⟩) 2 2, .bool false] 81 (0, 0))) := Lib.hid (by
    have := blk_new ((w.alloc (.cells #[.int .i64 100, .int .i64 1, .bool false, .int .i64 300, .int .i64 3, .bool false] 79)).alloc (.cells #[.int .i64 100, .int .i64 8, .int .i64 0, .int .i64 300, .int .i64 (-8), .int .i64 0] 74)) (.cells #[.int .i64 1, .int .i64 1, .int .i64 3, .string ⟨#[]⟩, .slice (some ⟨w.heap.size + 1, 0, none⟩) 2 2, .bool false] 81)
    simpa using this)
  have HBA := Lib.hid ((((Below.refl w.heap.size w).alloc (Nat.le_refl _) (.cells #[.int .i64 100, .int .i64 1, .bool false, .int .i64 300, .int .i64 3, .bool false] 79)).alloc (by simp) (.cells #[.int .i64 100, .int .i64 8, .int .i64 0, .int .i64 300, .int .i64 (-8), .int .i64 0] 74)).alloc (by simp; omega) (.cells #[.int .i64 1, .int .i64 1, .int .i64 3, .string ⟨#[]⟩, .slice (some ⟨w.heap.size + 1, 0, none⟩) 2 2, .bool false] 81))
  have HSA : Hid (Sl tAc (((w.alloc (.cells #[.int .i64 100, .int .i64 1, .bool false, .int .i64 300, .int .i64 3, .bool false] 79)).alloc (.cells #[.int .i64 100, .int .i64 8, .int .i64 0, .int .i64 300, .int .i64 (-8), .int .i64 0] 74)).alloc (.cells #[.int .i64 1, .int .i64 1, .int .i64 3, .string ⟨#[]⟩, .slice (some ⟨w.heap.size + 1, 0, none⟩) 2 2, .bool false] 81)) (fun _ => True) (some ⟨w.heap.size, 0, none⟩) r14) := Lib.hid (sl_block r14 [acs ⟨100, 1, false⟩, acs ⟨300, 3, false⟩] rfl (by simp; rfl) HA1.out trivial (fun i c x hi hx => by
    match i, hi, hx with
    | 0, hi, hx => simp [r14] at hi hx; subst hi; subst hx; exact ac_mk _ (by decide) (by decide)
    | 1, hi, hx => simp [r14] at hi hx; subst hi; subst hx; exact ac_mk _ (by decide) (by decide)
    | i + 2, hi, hx => simp at hi))
  have HSL : Hid (Sl tLn (((w.alloc (.cells #[.int .i64 100, .int .i64 1, .bool false, .int .i64 300, .int .i64 3, .bool false] 79)).alloc (.cells #[.int .i64 100, .int .i64 8, .int .i64 0, .int .i64 300, .int .i64 (-8), .int .i64 0] 74)).alloc (.cells #[.int .i64 1, .int .i64 1, .int .i64 3, .string ⟨#[]⟩, .slice (some ⟨w.heap.size + 1, 0, none⟩) 2 2, .bool false] 81)) (fun _ => True) (some ⟨w.heap.size + 1, 0, none⟩) j14.lines) := Lib.hid (sl_block j14.lines [[.int .i64 100, .int .i64 8, .int .i64 0], [.int .i64 300, .int .i64 (-8), .int .i64 0]] rfl (by simp; rfl) HL1.out trivial (fun i c x hi hx => by
    match i, hi, hx with
    | 0, hi, hx => simp [j14] at hi hx; subst hi; subst hx; exact ln_mk _ (by decide) (by decide) (by decide)
    | 1, hi, hx => simp [j14] at hi hx; subst hi; subst hx; exact ln_mk _ (by decide) (by decide) (by decide)
    | i + 2, hi, hx => simp at hi))
  have HSJ : Hid (Sl tJn (((w.alloc (.cells #[.int .i64 100, .int .i64 1, .bool false, .int .i64 300, .int .i64 3, .bool false] 79)).alloc (.cells #[.int .i64 100, .int .i64 8, .int .i64 0, .int .i64 300, .int .i64 (-8), .int .i64 0] 74)).alloc (.cells #[.int .i64 1, .int .i64 1, .int .i64 3, .string ⟨#[]⟩, .slice (some ⟨w.heap.size + 1, 0, none⟩) 2 2, .bool false] 81)) (fun _ => True) (some ⟨w.heap.size + 2, 0, none⟩) [j14]) :=
    Lib.hid (sl_oneJ (j := j14) (a := some ⟨w.heap.size + 1, 0, none⟩) (cap := 2) HJ1.out trivial (jn_mk j14 (by decide) (by decide) (by decide) (by decide) HSL.out (by decide) (by decide) (by rw [line_bytes]; decide)))
  go_enter Tryz.func7, Tryz.ntmps7
  go_wp2_with fail
  refine (set_any r14 (some ⟨w.heap.size, 0, none⟩) 2 [j14] (some ⟨w.heap.size + 2, 0, none⟩) 1 _ HSA.out (by decide) HSJ.out (by decide)).mono ?_
  rintro en w1 ⟨c, g, ra, fa, ga, rc, fc, gc, mb, rfl, hc, hg, _, _, hb⟩
  rw [fit14] at hg
  rw [set14] at hc
  have HB1 := Lib.hid (belows_then HBA.out HBA.out.size hb)
  have hab : Below w1.heap.size w1 ((w1.alloc (.cells #[.int .i64 1000000, .int .i64 1000000, .int .i64 1000000] 70)).alloc (.cells #[.int .i64 1, .int .i64 7500, .int .i64 1000000, .int .i64 1000000, .int .i64 1000000] 72)) := ((Below.refl w1.heap.size w1).alloc (Nat.le_refl _) (.cells #[.int .i64 1000000, .int .i64 1000000, .int .i64 1000000] 70)).alloc (by simp) (.cells #[.int .i64 1, .int .i64 7500, .int .i64 1000000, .int .i64 1000000, .int .i64 1000000] 72)
  have HC := Lib.hid (hc.below hab)
  have HG := Lib.hid (hg.below hab)
  have HB2 := Lib.hid (belows_then HB1.out HB1.out.size hab)
  have hbm : ((w1.alloc (.cells #[.int .i64 1000000, .int .i64 1000000, .int .i64 1000000] 70)).alloc (.cells #[.int .i64 1, .int .i64 7500, .int .i64 1000000, .int .i64 1000000, .int .i64 1000000] 72)).heap[w1.heap.size + 1]? = some (.cells #[.int .i64 1, .int .i64 7500, .int .i64 1000000, .int .i64 1000000, .int .i64 1000000] 72 (0, 0)) := by have := blk_new (w1.alloc (.cells #[.int .i64 1000000, .int .i64 1000000, .int .i64 1000000] 70)) (.cells #[.int .i64 1, .int .i64 7500, .int .i64 1000000, .int .i64 1000000, .int .i64 1000000] 72); simpa using this
  have HMS : Hid (Sl tMb ((w1.alloc (.cells #[.int .i64 1000000, .int .i64 1000000, .int .i64 1000000] 70)).alloc (.cells #[.int .i64 1, .int .i64 7500, .int .i64 1000000, .int .i64 1000000, .int .i64 1000000] 72)) (fun _ => True) (some ⟨w1.heap.size + 1, 0, none⟩) [m14]) := Lib.hid (mb_block (m := m14) hbm (by unfold Mb.wf m14; decide))
  clear hbm hc hg hb HBA HA1 HL1 HJ1 HSA HSJ HSL hab
  generalize (setR r14).length = nr at *
  generalize (fitJ 40 [j14]).length = nj at *
  go_wp2_with fail
  refine (grMake_any HC.out HG.out val14 (by decide) 5 (by decide) [m14] (some ⟨w1.heap.size + 1, 0, none⟩) 1 HMS.out (by decide)).mono ?_
  rintro en w2 ⟨v, rfl, ho, hb⟩
  rw [mak14] at ho ⊢
  have HB3 := Lib.hid (belows_then HB2.out HB2.out.size hb)
  obtain ⟨ba, bc, rfl, -, -, -⟩ := ho.slice
  have HBF := Lib.hid (HB3.out.alloc HB3.out.size (.cells #[.slice ba 2 bc, .int .i64 0, .int .i64 0, .int .i64 (-2), .int .i64 8, .int .i64 0, .int .i64 6] 51))
  clear ho hb HC HG HB1 HB2 HMS
  simp only [List.length_cons, List.length_nil, Nat.zero_add]
  go_wp2_with fail
  go_ret
  exact ⟨rfl, HBF.out⟩
end Go.Proofs.YtgggpaacagbmcaaGreat
