/- Charts: put, New. -/
import Derived.Test.YtfnmlpnncjhnmaaGreatX18IncomeTells
import Derived.Test.YtfnmlpnncjhnmaaGreatX21IncomeTells
import Derived.Laws.AppendOwnNone
set_option linter.unusedVariables false
set_option linter.unusedSimpArgs false
namespace Go.Proofs.YtfnmlpnncjhnmaaGreat
open Go.RowKit Go.Maps Go.Deep

theorem known_any (k : Int) (w : World) {b : Bool} (h : (decide (1 ≤ k) && decide (k ≤ 5)) = b) : Calls Tryz.prog 175 #[.int .i64 k] w fun e w' => e = .returned (.bool b) ∧ w' = w := by
  have hcs : (b = true ∧ 1 ≤ k ∧ k ≤ 5) ∨ (b = false ∧ (k < 1 ∨ 1 ≤ k ∧ 5 < k)) := by
    cases b
    · right; simp at h; exact ⟨rfl, by omega⟩
    · left; simp at h; exact ⟨rfl, h⟩
  rcases hcs with ⟨rfl, h1, h2⟩ | ⟨rfl, h1 | ⟨h1, h2⟩⟩
  all_goals
    clear h
    go_enter Tryz.func175, Tryz.ntmps175
    go_wp2
    go_ret
    refine ⟨?_, rfl⟩
    first | rfl | (simp; omega)
theorem asked_any (k : Int) (w : World) {b : Bool} (h : (decide (1 ≤ k) && decide (k ≤ 5)) = b) : Calls Tryz.prog 174 #[.func (.func 175) #[] #[], .int .i64 k] w fun e w' => e = .returned (.bool b) ∧ w' = w := by
  have HC := Lib.hid (known_any k w h)
  clear h
  go_enter Tryz.func174, Tryz.ntmps174
  go_wp2_with fail
  refine HC.out.mono ?_
  rintro e w1 ⟨rfl, rfl⟩
  go_wp2_with fail
  go_ret
  exact ⟨rfl, rfl⟩

theorem Below.onlyA {B b : Nat} {w w2 w3 : World} (h : Below B w w2) (ho : OnlyB w2 w3 b) (hb : B ≤ b) (hB : B ≤ w2.heap.size) : Below B w w3 := h.grown ho.grown hB (fun k e => by cases e; exact hb)
def PutC (w : World) (B g : Nat) (l : List Ac) (e : Ending) (w' : World) : Prop :=
  e = .returned (.int .i64 0) ∧ ∃ mb', ChartAt w' g mb' l ∧ (∀ b, mb' = some b → B ≤ b) ∧ Below B w w'

theorem codes_snoc {l : List Ac} {x : Ac} (h : findA l x.code = none) : ins (codesOf l) x.code x = codesOf (l ++ [x]) := by
  rw [ins_new _ _ _ (by rw [look_codes]; exact h)]
  unfold codesOf
  rw [List.map_append]
  rfl

set_option maxHeartbeats 4000000 in
set_option maxRecDepth 100000 in
theorem put_any {w : World} {g B : Nat} {mb : Option Nat} {l : List Ac} (h : ChartAt w g mb l) (x : Ac) (hrow : rowB x = true) (hnew : findA l x.code = none) (hk1 : I64 x.code) (hk2 : I64 x.kind) (hBg : B ≤ g) (hBm : ∀ b, mb = some b → B ≤ b) :
    Calls Tryz.prog 159 #[.pointer (some ⟨g, 0, none⟩), acv x] w (PutC w B g (l ++ [x])) := by
  have HH := Lib.hid h
  have HNEW := Lib.hid hnew
  have HK1 := Lib.hid hk1
  have HINS := Lib.hid (codes_snoc hnew)
  have HBM := Lib.hid hBm
  have hgl := blk_lt h.cell
  obtain ⟨xc, xk, xr⟩ := x
  have hrow' : 1 ≤ xc ∧ xc ≤ 9999 ∧ 1 ≤ xk ∧ xk ≤ 5 := by
    unfold rowB at hrow
    simp at hrow
    omega
  obtain ⟨r1, r2, r3, r4⟩ := hrow'
  simp only at HNEW HK1 HINS
  have HB := Lib.hid ((Below.refl w.heap.size w).alloc (Nat.le_refl _) (.cells #[.int .i64 xc, .int .i64 xk, .bool xr] 83))
  have HZ := Lib.hid (blk_new w (.cells #[.int .i64 xc, .int .i64 xk, .bool xr] 83))
  clear h hnew hk1 hk2 hrow hBm
  go_enter Tryz.func159, Tryz.ntmps159
  go_wp2_with fail
  refine (asked_any xk _ (b := true) (by simp; omega)).mono ?_
  rintro e w1 ⟨rfl, rfl⟩
  go_wp2_with fail
  refine abs_world (S := fun wx => wx.heap[w.heap.size]? = some (.cells #[.int .i64 xc, .int .i64 xk, .bool xr] 83 (0, 0)) ∧ Below w.heap.size w wx) ?_ ⟨HZ.out, HB.out⟩
  rintro wx ⟨hzx, hbx⟩
  have HZX := Lib.hid hzx
  have HBX := Lib.hid hbx
  have HCX := Lib.hid (HH.out.below hbx)
  have hzc := blk_cells hzx
  have hgc := blk_cells HCX.out.cell
  have hgf := blk_frz HCX.out.cell
  have hzl := blk_lt hzx
  have hgx := blk_lt HCX.out.cell
  have hne : w.heap.size ≠ g := by omega
  have hl1 := lookA HCX.out HK1.out wx.drew (fun b _ => rfl)
  have hl2 := lookA HCX.out HK1.out (wx.drew.alloc (.cells #[.int .i64 0, .int .i64 0, .bool false] 83)) (fun b hb => Below.heap_alloc wx.drew _ b hb)
  have hl3 := lookA HCX.out HK1.out (wx.alloc (.cells #[.int .i64 0, .int .i64 0, .bool false] 83)).drew (fun b hb => Below.heap_alloc wx _ b hb)
  have hd : acD l xc = ac0 := by unfold acD; rw [HNEW.out]; rfl
  rw [HNEW.out, hd] at hl1 hl2 hl3
  simp only [Option.isSome_none] at hl1 hl2 hl3
  clear hzx hbx HB HZ hd
  go_region_law (fail)
  all_goals
    have hnil := fun W m => run_eql_map_nil (P := Tryz.prog) W 216 _ _ m Tryz.underlying216
    have hmm := @run_makeMap Tryz.prog
    have HBW := Lib.hid (HBX.out.mono (Nat.le_trans hBg (Nat.le_of_lt hgl)))
    cases mb with
    | none =>
      go_wp2_with fail
      refine abs_world (S := (fun wz => ∃ b', wz.heap[g]? = some (.cells #[.map (some b')] 218 (0, 0)) ∧ MapIs mInt acv wz b' (codesOf l) ∧ b' ≠ g ∧ B ≤ b' ∧ wz.heap[w.heap.size]? = some (.cells #[.int .i64 xc, .int .i64 xk, .bool xr] 83 (0, 0)) ∧ Below B w wz)) ?_ ⟨wx.heap.size + 1, blk_alloc (blk_alloc (blk_set HCX.out.cell 0 _) _) _, by rw [HCX.out.none rfl]; have h9 : MapIs mInt acv (((wx.setCell { block := g, off := 0 } (Value.map (some (wx.heap.size + 1)))).alloc (.cells #[.int .i64 ac0.code, .int .i64 ac0.kind, .bool ac0.ret] 83)).alloc (.map #[] 0)) (wx.heap.size + 1) (codesOf []) := (by have := MapIs.new mInt acv ((wx.setCell { block := g, off := 0 } (Value.map (some (wx.heap.size + 1)))).alloc (.cells #[.int .i64 ac0.code, .int .i64 ac0.kind, .bool ac0.ret] 83)); simpa [codesOf] using this); exact h9.keep rfl, by omega, by omega, blk_alloc (blk_alloc (blk_far HZX.out (p := ⟨g, 0, none⟩) hne _) _) _, (((HBW.out.setCell hBg _).alloc (by simp; omega) _).alloc (by simp; omega) _).drew⟩
      rintro wz ⟨b', hzg, hzm, hzb, hzB, hza, hzB2⟩
      have HZG := Lib.hid hzg
      have HZM := Lib.hid hzm
      have HZB := Lib.hid hzB2
      have HZA := Lib.hid hza
      clear hzc hgc hgf hl1 hl2 hl3
      have hzc := blk_cells hza
      have hgc := blk_cells hzg
      clear hzg hzm hza hzB2 hnil hmm
      refine still_tail 7 (by kernel_rfl) (by kernel_rfl) ?_
      simp only [List.take_succ_cons, List.take_zero, List.drop_succ_cons, List.drop_zero]
      repeat still_step
      try refine wpStill_nil ?_
      change wpList _ _ _ _ _ _
      refine wp_update (M := mInt) (ev := acv) rfl _ _ _ 216 rfl _ Tryz.underlying216 b' (codesOf l) xc ⟨xc, xk, xr⟩ rfl rfl rfl (HZM.out.keep rfl) HK1.out ?_
      intro w2 hm2 ho2
      have HF : Hid (PutC w B g (l ++ [⟨xc, xk, xr⟩]) (.returned (.int .i64 0)) w2) := Lib.hid ⟨rfl, some b', ⟨(ho2.heap (k := g) (Ne.symm hzb)).trans HZG.out, (fun e => by cases e), (fun b e => by injection e with e; subst e; rw [← HINS.out]; exact ⟨hm2, hzb⟩)⟩, (fun b e => by injection e with e; subst e; exact hzB), Below.onlyA (Below.drew HZB.out) ho2 hzB (Nat.le_trans hzB (Nat.le_of_lt HZM.out.lt))⟩
      clear hm2 ho2
      go_wp2_with fail
      go_ret
      exact HF.out
    | some b =>
      go_wp2_with fail
      refine abs_world (S := (fun wz => ∃ b', wz.heap[g]? = some (.cells #[.map (some b')] 218 (0, 0)) ∧ MapIs mInt acv wz b' (codesOf l) ∧ b' ≠ g ∧ B ≤ b' ∧ wz.heap[w.heap.size]? = some (.cells #[.int .i64 xc, .int .i64 xk, .bool xr] 83 (0, 0)) ∧ Below B w wz)) ?_ ⟨b, blk_alloc HCX.out.cell _, (HCX.out.some b rfl).1.keep (Below.heap_alloc wx _ b (HCX.out.some b rfl).1.lt), (HCX.out.some b rfl).2, HBM.out b rfl, blk_alloc HZX.out _, (HBW.out.alloc (by omega) _).drew⟩
      rintro wz ⟨b', hzg, hzm, hzb, hzB, hza, hzB2⟩
      have HZG := Lib.hid hzg
      have HZM := Lib.hid hzm
      have HZB := Lib.hid hzB2
      have HZA := Lib.hid hza
      clear hzc hgc hgf hl1 hl2 hl3
      have hzc := blk_cells hza
      have hgc := blk_cells hzg
      clear hzg hzm hza hzB2 hnil hmm
      refine still_tail 7 (by kernel_rfl) (by kernel_rfl) ?_
      simp only [List.take_succ_cons, List.take_zero, List.drop_succ_cons, List.drop_zero]
      repeat still_step
      try refine wpStill_nil ?_
      change wpList _ _ _ _ _ _
      refine wp_update (M := mInt) (ev := acv) rfl _ _ _ 216 rfl _ Tryz.underlying216 b' (codesOf l) xc ⟨xc, xk, xr⟩ rfl rfl rfl (HZM.out.keep rfl) HK1.out ?_
      intro w2 hm2 ho2
      have HF : Hid (PutC w B g (l ++ [⟨xc, xk, xr⟩]) (.returned (.int .i64 0)) w2) := Lib.hid ⟨rfl, some b', ⟨(ho2.heap (k := g) (Ne.symm hzb)).trans HZG.out, (fun e => by cases e), (fun b e => by injection e with e; subst e; rw [← HINS.out]; exact ⟨hm2, hzb⟩)⟩, (fun b e => by injection e with e; subst e; exact hzB), Below.onlyA (Below.drew HZB.out) ho2 hzB (Nat.le_trans hzB (Nat.le_of_lt HZM.out.lt))⟩
      clear hm2 ho2
      go_wp2_with fail
      go_ret
      exact HF.out
end Go.Proofs.YtfnmlpnncjhnmaaGreat


/- append at a step of a region, where the list behind may be nil. -/
set_option linter.unusedVariables false
set_option linter.unusedSimpArgs false
namespace Go.Proofs.YtfnmlpnncjhnmaaGreat
open Go.RowKit Go.Maps
section
variable {P : Program} {e : TypeId} {α : Type} {T : Ty P e α} {ops : Array Oper} {o : Oper} {a : Act} {w : World} {K : Act → World → Prop} {Q : Exit → Act → World → Prop} {E : Prop}
theorem step_appA (hgd : o.guard = none) (s x : Operand) (t : TypeId) (ho : o.op = .call { callee := .builtin .append, args := #[s, x], argTypes := #[t, t] })
    (i : TypeInfo) (z : Value) (bytes : Nat) (ht : P.underlying t = some (.slice e)) (hi : P.info? e = some i) (hz : i.zero = some z) (hsize : i.size = T.n) (hby : i.bytes = bytes) (hzs : z.cells.size = T.n) (hsz : 0 < T.n)
    (h1c : ∀ (w : World) (F : Nat → Prop) (c : List Value) (x : α), T.R w F c x → ∀ u ∈ c, u.oneCell' = true)
    (base : Nat) (v : Value) (xs : List α) (hs : a.eval s = v) (hown : OwnL T w base v xs) (ad : Option Addr) (c : Nat) (ys : List α) (hx : a.eval x = .slice ad ys.length c) (hnil : ad = none → ys = [] ∧ c = 0)
    (hys : Sl T w (fun k => some k ≠ v.ownBlock ∧ k < w.heap.size) ad ys) (h63 : xs.length + ys.length ≤ maxLen) (hbytes : (xs.length + ys.length) * bytes ≤ 140737488355328) (hbase : base ≤ w.heap.size)
    (h : ∀ v' w', OwnL T w' base v' (xs ++ ys) → w.grownBy w' v.ownBlock → (v'.ownBlock = v.ownBlock ∨ v'.ownBlock = some w.heap.size) → K (a.put o.dst v') w') :
    if Region.wanted o (yielded ops a.tmps) = true then Oper.wp P o a w K Q else E := by
  cases ad with
  | some ad => exact step_app hgd s x t ho i z bytes ht hi hz hsize hby hzs hsz h1c base v xs hs hown ad c ys hx hys h63 hbytes hbase h
  | none =>
    obtain ⟨rfl, rfl⟩ := hnil rfl
    obtain ⟨css, hr, h2⟩ := hown
    have hw : Region.wanted o (yielded ops a.tmps) = true := by simp [Region.wanted, hgd]
    rw [if_pos hw]
    have hrun := run_append_owned_none (P := P) (w := w) base t o.type e i T.n ht hi v xs.length css.flatten hr
    unfold Oper.wp
    have hx' : a.eval x = .slice none 0 0 := hx
    simp [execOp, ho, resolve, invoke, builtin, hs, hx', hrun, Result.andThen]
    exact h v w (by rw [List.append_nil]; exact ⟨css, hr, h2⟩) ⟨rfl, rfl, rfl, Nat.le_refl _, fun _ _ _ => rfl⟩ (.inl rfl)
end
end Go.Proofs.YtfnmlpnncjhnmaaGreat
