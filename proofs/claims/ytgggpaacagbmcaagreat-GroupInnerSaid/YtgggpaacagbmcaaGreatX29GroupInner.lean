/- append at a step of a region, where the list behind may be nil. -/
import Derived.Test.YtgggpaacagbmcaaGreatX19GroupInner
import Derived.Laws.AppendOwnNone
import Derived.Test.YtgggpaacagbmcaaGreatX11GroupInner
import Derived.Test.YtgggpaacagbmcaaGreatX27GroupInner
import Derived.Test.YtgggpaacagbmcaaGreatX17GroupInner
import Derived.Deep.RegionHeld3
set_option linter.unusedVariables false
set_option linter.unusedSimpArgs false
namespace Go.Proofs.YtgggpaacagbmcaaGreat
open Go.RowKit Go.Maps
section
variable {P : Program} {e : TypeId} {α : Type} {T : Ty P e α} {ops : Array Oper} {o : Oper} {a : Act} {w : World} {K : Act → World → Prop} {Q : Exit → Act → World → Prop} {E : Prop}
theorem step_appA (hgd : o.guard = none) (s x : Operand) (t : TypeId) (ho : o.op = .call { callee := .builtin .append, args := #[s, x], argTypes := #[t, t] })
    (i : TypeInfo) (z : Value) (bytes : Nat) (ht : P.underlying t = some (.slice e)) (hi : P.info? e = some i) (hz : i.zero = some z) (hsize : i.size = T.n) (hby : i.bytes = bytes) (hzs : z.cells.size = T.n) (hsz : 0 < T.n)
    (h1c : ∀ (w : World) (F : Nat → Prop) (c : List Value) (x : α), T.R w F c x → ∀ u ∈ c, u.oneCell' = true)
    (base : Nat) (v : Value) (xs : List α) (hs : a.eval s = v) (hown : OwnL T w base v xs) (ad : Option Addr) (c : Nat) (ys : List α) (hx : a.eval x = .slice ad ys.length c) (hnil : ad = none → ys = [] ∧ c = 0)
    (hys : Sl T w (fun k => some k ≠ v.ownBlock ∧ k < w.heap.size) ad ys) (h63 : xs.length + ys.length ≤ maxLen) (hbytes : (xs.length + ys.length) * bytes ≤ 140737488355328) (hbase : base ≤ w.heap.size)
    (h : ∀ v' w', OwnL T w' base v' (xs ++ ys) → w.grownBy w' v.ownBlock → (v'.ownBlock = v.ownBlock ∨ v'.ownBlock = some w.heap.size) → K (a.put o.dst v') w') :
    if Region.wanted o (yielded ops a.tmps) = true then Oper.wp P o a w K Q else E := by
  cases ad with
  | some ad => exact step_app hgd s x t ho i z bytes ht hi hz hsize hby hzs hsz h1c base v xs hs hown ad c ys hx hys h63 hbytes hbase h
  | none =>
    obtain ⟨rfl, rfl⟩ := hnil rfl
    obtain ⟨css, hr, h2⟩ := hown
    have hw : Region.wanted o (yielded ops a.tmps) = true := by simp [Region.wanted, hgd]
    rw [if_pos hw]
    have hrun := run_append_owned_none (P := P) (w := w) base t o.type e i T.n ht hi v xs.length css.flatten hr
    unfold Oper.wp
    have hx' : a.eval x = .slice none 0 0 := hx
    simp [execOp, ho, resolve, invoke, builtin, hs, hx', hrun, Result.andThen]
    exact h v w (by rw [List.append_nil]; exact ⟨css, hr, h2⟩) ⟨rfl, rfl, rfl, Nat.le_refl _, fun _ _ _ => rfl⟩ (.inl rfl)
end
end Go.Proofs.YtgggpaacagbmcaaGreat

/- Regions that draw their order, at an act that is a letter: what each operation makes of it. -/
set_option linter.unusedVariables false
set_option linter.unusedSimpArgs false
namespace Go.Proofs.YtgggpaacagbmcaaGreat
open Go Go.RowKit Go.Maps

theorem put_same {a : Act} {i : Nat} {v : Value} (h : i < a.tmps.size) : (a.put (some i) v).eval (.tmp i) = v := by
  simp [Act.put, Act.eval, h]
theorem put_ne {a : Act} {i j : Nat} {v : Value} (h : i ≠ j) : (a.put (some i) v).eval (.tmp j) = a.eval (.tmp j) := by
  simp [Act.put, Act.eval, Array.getD_eq_getD_getElem?, Array.getElem?_setIfInBounds, h]
theorem put_size {a : Act} {d : Option Tmp} {v : Value} : (a.put d v).tmps.size = a.tmps.size := by
  unfold Act.put
  split <;> simp
theorem put_defers {a : Act} {d : Option Tmp} {v : Value} : (a.put d v).defers = a.defers := by
  unfold Act.put
  split <;> rfl
theorem put_none {a : Act} {v : Value} : a.put none v = a := rfl
section
variable {P : Program} {o : Oper} {a : Act} {w w' : World} {v : Value} {K : Act → World → Prop} {Q : Exit → Act → World → Prop}
theorem op_run (h : (execOp a.eval o).run P w = .ok (.value v) w') (hk : K (a.put o.dst v) w') : o.wp P a w K Q := by
  unfold Oper.wp
  rw [h]
  exact hk
theorem op_skip (h : (execOp a.eval o).run P w = .ok .skip w') (hk : K (a.put o.dst undef) w') : o.wp P a w K Q := by
  unfold Oper.wp
  rw [h]
  exact hk
theorem op_move (s : Operand) (ho : o.op = .move s) (hs : a.eval s = v) (hk : K (a.put o.dst v) w) : o.wp P a w K Q :=
  op_run (by simp [execOp, ho, hs]) hk
theorem op_nil (s : Operand) (p : Addr) (ho : o.op = .nilCheck s) (hs : a.eval s = .pointer (some p)) (hk : K (a.put o.dst (.pointer (some p))) w) : o.wp P a w K Q :=
  op_run (by simp [execOp, ho, hs]) hk
theorem op_field (st f : Nat) (s : Operand) (p : Addr) (ho : o.op = .fieldAddr st s f) (hs : a.eval s = .pointer (some p)) (hr : (Instr.fieldAt st (.pointer (some p)) f).run P w = .ok v w) (hk : K (a.put o.dst v) w) : o.wp P a w K Q :=
  op_run (by simp [execOp, ho, hs, hr, Sem.run_bind, Result.andThen_ok]) hk
theorem op_load (t : TypeId) (s : Operand) (p : Addr) (ho : o.op = .load t s) (hs : a.eval s = .pointer (some p)) (hr : (Instr.loadAt t (.pointer (some p))).run P w = .ok v w) (hk : K (a.put o.dst v) w) : o.wp P a w K Q :=
  op_run (by simp [execOp, ho, hs, hr, Sem.run_bind, Result.andThen_ok]) hk
theorem op_un (op : UnOp) (t : TypeId) (s : Operand) (u : Value) (ho : o.op = .unOp op t s) (hs : a.eval s = u) (hr : (Op.unary op u).run P w = .ok v w) (hk : K (a.put o.dst v) w) : o.wp P a w K Q :=
  op_run (by simp [execOp, ho, hs, hr, Sem.run_bind, Result.andThen_ok]) hk
theorem op_build1 (t : TypeId) (s : Operand) (u : Value) (ho : o.op = .buildSlice t 1 #[(0, s)]) (hs : a.eval s = u) (hr : (Instr.buildSlice t 1 #[(0, u)]).run P w = .ok v w') (hk : K (a.put o.dst v) w') : o.wp P a w K Q :=
  op_run (by simp [execOp, ho, hs, hr, Sem.run_bind, Result.andThen_ok]) hk
theorem op_store (t : TypeId) (s x : Operand) (p : Addr) (u : Value) (ho : o.op = .store t s x) (hd : o.dst = none) (hs : a.eval s = .pointer (some p)) (hx : a.eval x = u) (hr : (Instr.storeAt t (.pointer (some p)) u).run P w = .ok () w') (hk : K a w') : o.wp P a w K Q :=
  op_skip (w' := w') (by simp [execOp, ho, hs, hx, hr, Sem.run_bind, Result.andThen_ok]) (by rw [hd]; exact hk)
theorem op_app {e : TypeId} {α : Type} {T : Ty P e α} (hgd : o.guard = none) (s x : Operand) (t : TypeId) (ho : o.op = .call { callee := .builtin .append, args := #[s, x], argTypes := #[t, t] })
    (i : TypeInfo) (z : Value) (bytes : Nat) (ht : P.underlying t = some (.slice e)) (hi : P.info? e = some i) (hz : i.zero = some z) (hsize : i.size = T.n) (hby : i.bytes = bytes) (hzs : z.cells.size = T.n) (hsz : 0 < T.n)
    (h1c : ∀ (w : World) (F : Nat → Prop) (c : List Value) (x : α), T.R w F c x → ∀ u ∈ c, u.oneCell' = true)
    (base : Nat) (v : Value) (xs : List α) (hs : a.eval s = v) (hown : OwnL T w base v xs) (ad : Addr) (c : Nat) (ys : List α) (hx : a.eval x = .slice (some ad) ys.length c)
    (hys : Sl T w (fun k => some k ≠ v.ownBlock ∧ k < w.heap.size) (some ad) ys) (h63 : xs.length + ys.length ≤ maxLen) (hbytes : (xs.length + ys.length) * bytes ≤ 140737488355328) (hbase : base ≤ w.heap.size)
    (h : ∀ v' w', OwnL T w' base v' (xs ++ ys) → w.grownBy w' v.ownBlock → (v'.ownBlock = v.ownBlock ∨ v'.ownBlock = some w.heap.size) → K (a.put o.dst v') w') : o.wp P a w K Q := by
  have := step_app (ops := #[]) (E := True) hgd s x t ho i z bytes ht hi hz hsize hby hzs hsz h1c base v xs hs hown ad c ys hx hys h63 hbytes hbase (Q := Q) h
  rw [if_pos (by simp [Region.wanted, hgd])] at this
  exact this
end
end Go.Proofs.YtgggpaacagbmcaaGreat


/- variorumbook: marks of balances; marked. -/
set_option linter.unusedVariables false
set_option linter.unusedSimpArgs false
namespace Go.Proofs.YtgggpaacagbmcaaGreat
open Go.RowKit Go.Maps Go.Deep

/-- the marks of list i, from one place on -/
def marks (i f n : Nat) : List (Int × Int) := (List.range n).map (fun (k : Nat) => ((-1000 * (i : Int) - ((f : Int) + (k : Int)) - 1 : Int), (0 : Int)))
theorem marks_len (i f n : Nat) : (marks i f n).length = n := by unfold marks; rw [List.length_map, List.length_range]
theorem marks_succ (i f n : Nat) : marks i f (n + 1) = marks i f n ++ [(-1000 * (i : Int) - ((f : Int) + (n : Int)) - 1, 0)] := by
  unfold marks
  rw [List.range_succ, List.map_append]
  rfl
theorem marks_app (i n : Nat) : ∀ m, marks i 0 n ++ marks i n m = marks i 0 (n + m)
  | 0 => by simp [marks]
  | m + 1 => by
    rw [marks_succ, ← List.append_assoc, marks_app i n m, ← Nat.add_assoc, marks_succ]
    congr 4
    omega

set_option maxHeartbeats 8000000 in
set_option maxRecDepth 100000 in
theorem markBal_any (i f n : Nat) (hi : i ≤ 1000) (hf : f ≤ 200000) (hn : n ≤ 200000) (w : World) :
    Calls Tryz.prog 116 #[.int .i64 (i : Int), .int .i64 (f : Int), .int .i64 (n : Int)] w fun e w' => ∃ v, e = .returned v ∧ OwnL tBal w' w.heap.size v (marks i f n) ∧ Below w.heap.size w w' := by
  obtain ⟨i0, hi0, hz0, hz1, hz2⟩ := info_parts infoBal
  have w1 : IntKind.i64.wrap (-1000 * (i : Int)) = -1000 * (i : Int) := wrap_is (by omega) (by omega)
  have w0 : IntKind.i64.wrap ((f : Int) + (n : Int)) = (f : Int) + (n : Int) := wrap_is (by omega) (by omega)
  go_enter Tryz.func116, Tryz.ntmps116
  go_wp2_with fail
  go_loopw [7, 8] (fun vo vi wr => ∃ (m : Nat) (k : Int) (vx : Value), vx = vo ∧ m ≤ n ∧ vi = .int .i64 k ∧ k = (f : Int) + (m : Int) ∧ OwnL tBal wr w.heap.size vx (marks i f m) ∧ Below w.heap.size w wr) (fun _ vi _ => f + n - (Go.RowKit.intOf vi).toNat)
  case atStart => exact ⟨0, _, _, rfl, Nat.zero_le _, rfl, by simp, OwnL.nil _ _, Below.refl _ _⟩
  case round =>
    obtain ⟨m, k, vo, rfl, hm, rfl, hk, ho, hb⟩ := hrel
    have HO := Lib.hid ho
    have HB := Lib.hid hb
    have HK := Lib.hid hk
    clear ho hb
    by_cases hlt : m < n
    · have hlt' : k < (f : Int) + (n : Int) := by omega
      have w2 : IntKind.i64.wrap (-1000 * (i : Int) - k) = -1000 * (i : Int) - k := wrap_is (by omega) (by omega)
      have w3 : IntKind.i64.wrap (-1000 * (i : Int) - k - 1) = -1000 * (i : Int) - k - 1 := wrap_is (by omega) (by omega)
      have w4 : IntKind.i64.wrap (k + 1) = k + 1 := wrap_is (by omega) (by omega)
      have HX : Hid (I64 (-1000 * (i : Int) - k - 1)) := Lib.hid (i64_ofB (by omega) (by omega))
      have HMS : Hid (marks i f m ++ [(-1000 * (i : Int) - k - 1, 0)] = marks i f (m + 1)) := Lib.hid (by rw [marks_succ, hk])
      have HOA := Lib.hid (HO.out.alloc (.cells #[.int .i64 (-1000 * (i : Int) - k - 1), .int .i64 0] 62))
      have HBA := Lib.hid (HB.out.alloc HB.out.size (.cells #[.int .i64 (-1000 * (i : Int) - k - 1), .int .i64 0] 62))
      have HSL : Hid (Sl tBal (wr.alloc (.cells #[.int .i64 (-1000 * (i : Int) - k - 1), .int .i64 0] 62)) (fun kk => some kk ≠ vo.ownBlock ∧ kk < (wr.alloc (.cells #[.int .i64 (-1000 * (i : Int) - k - 1), .int .i64 0] 62)).heap.size) (some ⟨wr.heap.size, 0, none⟩) [(-1000 * (i : Int) - k - 1, 0)]) :=
        Lib.hid (sl_one2 tBal (x := (-1000 * (i : Int) - k - 1, 0)) rfl (blk_new wr _) ⟨fun e => by have := (HO.out.lt _ e.symm).2; omega, by simp⟩ (bal_mk (-1000 * (i : Int) - k - 1, 0) HX.out (show I64 0 by decide)))
      have hml := marks_len i f m
      have h63 : (marks i f m).length + [((-1000 * (i : Int) - k - 1, 0) : Int × Int)].length ≤ maxLen := by simp only [List.length_cons, List.length_nil]; unfold maxLen; omega
      have hby : ((marks i f m).length + [((-1000 * (i : Int) - k - 1, 0) : Int × Int)].length) * 16 ≤ 140737488355328 := by simp only [List.length_cons, List.length_nil]; omega
      clear hml hk
      go_wp2_with (at_builtin; refine wp_app (T := tBal) rfl _ _ 49 rfl i0 (.agg #[.int .i64 0, .int .i64 0]) 16 Tryz.underlying49 hi0 hz0 hz1 hz2 rfl (by decide) bal_one w.heap.size vo (marks i f m) rfl HOA.out ⟨wr.heap.size, 0, none⟩ 1 [(-1000 * (i : Int) - k - 1, 0)] rfl HSL.out h63 hby HBA.out.size ?_; intro v2 w2 hown hg hnil hat; have HB2 := Lib.hid (Below.grown HBA.out hg HBA.out.size (fun k e => (HOA.out.lt k e).1)); have HO2 := Lib.hid hown; clear hown hg hnil hat)
      go_roundw
      case rel => exact ⟨m + 1, _, _, rfl, by omega, rfl, by have := HK.out; push_cast; omega, by rw [← HMS.out]; exact HO2.out, HB2.out⟩
      case measure => have := HK.out; simp [Go.RowKit.intOf]; omega
    · obtain rfl : m = n := by omega
      have hnl : ¬ k < (f : Int) + (m : Int) := by omega
      go_wp2_with fail
      go_ret
      exact ⟨_, rfl, HO.out, HB.out⟩
end Go.Proofs.YtgggpaacagbmcaaGreat


/- variorumbook: markedBalances, stillBalances. -/
set_option linter.unusedVariables false
set_option linter.unusedSimpArgs false
namespace Go.Proofs.YtgggpaacagbmcaaGreat
open Go.RowKit Go.Maps Go.Deep

def tBalV : Ty Tryz.prog 49 Value := Ty.val Tryz.underlying49 (by kernel_rfl)
theorem balV_Free : Free tBalV := fun _ _ _ _ _ _ h => h
theorem val_at {w : World} {F : Nat → Prop} {a : Option Addr} {l : List Value} (h : Sl tBalV w F a l) (i : Nat) (hi : i < l.length) :
    ∃ ad, a = some ad ∧ ad.block < w.heap.size ∧ w.cell? (ad.add i) = some l[i] := by
  obtain ⟨ad, ces, rfl, _, hlt, hc, hr⟩ := h i l[i] (List.getElem?_eq_getElem hi)
  obtain ⟨rfl, _⟩ := hr
  have hn : tBalV.n = 1 := rfl
  rw [hn] at hc
  refine ⟨ad, rfl, hlt, ?_⟩
  have := hc 0 _ rfl
  rw [Nat.mul_one] at this
  rwa [Go.Addr.add_add, Nat.add_zero] at this

/-- the slices vs, read: what they hold -/
def Reads (w : World) (vs : List Value) (L : List (List (Int × Int))) : Prop :=
  vs.length = L.length ∧ ∀ (i : Nat) (v : Value) (l : List (Int × Int)), vs[i]? = some v → L[i]? = some l → ∃ a c, v = .slice a l.length c ∧ Sl tBal w (fun _ => True) a l
theorem Reads.keep {w w' : World} {vs : List Value} {L : List (List (Int × Int))} (h : Reads w vs L) (hb : Below w.heap.size w w') : Reads w' vs L :=
  ⟨h.1, fun i v l hv hl => by
    obtain ⟨a, c, e, hs⟩ := h.2 i v l hv hl
    exact ⟨a, c, e, hs.keep (fun k hk _ => hb.block k hk)⟩⟩
theorem Lots.reads {w : World} {base : Nat} {vs : List Value} {L : List (List (Int × Int))} (h : Lots tBal w base vs L) : Reads w vs L :=
  ⟨h.len, fun i v l hv hl => by
    obtain ⟨a, c, e, _, _, hs⟩ := (h.own i v l hv hl).slice
    exact ⟨a, c, e, hs⟩⟩

set_option maxHeartbeats 8000000 in
set_option maxRecDepth 100000 in
theorem markedBal_any {w : World} {F : Nat → Prop} {a : Option Addr} {cap : Nat} {vs : List Value} {L : List (List (Int × Int))} (hs : Sl tBalV w F a vs) (hr : Reads w vs L) (hn : vs.length ≤ 1000)
    (hL : ∀ (i : Nat) (l : List (Int × Int)), L[i]? = some l → l = marks i 0 l.length ∧ l.length ≤ 200000) :
    Calls Tryz.prog 71 #[.slice a vs.length cap] w fun e w' => e = .returned (.bool true) ∧ Below w.heap.size w w' := by
  have HS := Lib.hid hs
  have HR := Lib.hid hr
  have HL := Lib.hid hL
  clear hs hr hL
  go_enter Tryz.func71, Tryz.ntmps71
  go_wp2_with fail
  go_loopw [3] (fun vi wr => ∃ n : Nat, n ≤ vs.length ∧ vi = .int .i64 n ∧ Below w.heap.size w wr) (fun vi _ => vs.length - (Go.RowKit.intOf vi).toNat)
  case atStart => exact ⟨0, Nat.zero_le _, rfl, Below.refl _ _⟩
  case round =>
    obtain ⟨n, hnn, rfl, hb⟩ := hrel
    have HB := Lib.hid hb
    clear hb
    by_cases hlt : n < vs.length
    · have hlt2 : n < L.length := by have := HR.out.1; omega
      obtain ⟨l, hl⟩ : ∃ l, L[n]? = some l := ⟨_, List.getElem?_eq_getElem hlt2⟩
      obtain ⟨hmk, hll⟩ := HL.out n l hl
      obtain ⟨la, lc, hv, hsl⟩ := (HR.out.keep HB.out).2 n vs[n] l (List.getElem?_eq_getElem hlt) hl
      obtain ⟨ad, rfl, hadl, hc0⟩ := val_at (Sl.keep (fun k hk _ => HB.out.block k hk) HS.out) n hlt
      rw [hv] at hc0
      have HMK : Hid (Calls Tryz.prog 116 #[.int .i64 (n : Int), .int .i64 0, .int .i64 (l.length : Int)] wr.drew fun e w' => ∃ v, e = .returned v ∧ OwnL tBal w' wr.drew.heap.size v l ∧ Below wr.drew.heap.size wr.drew w') := Lib.hid (by
        have := markBal_any n 0 l.length (by omega) (by omega) hll wr.drew
        rwa [← hmk] at this)
      have hlm : l.length ≤ maxLen := by unfold maxLen; omega
      have hlm' : l.length ≤ 9223372036854775807 := by omega
      have HSB : Hid (∀ W, Below wr.heap.size wr W → ∀ (b : Option Addr) (cb : Nat), Sl tBal W (fun _ => True) b l → Calls Tryz.prog 16 #[.slice la l.length lc, .slice b l.length cb] W fun e w' => e = .returned (.bool true) ∧ Below W.heap.size W w') := Lib.hid (fun W hW b cb hsb =>
        sameBal_is l l la b lc cb W (Sl.keep (fun k hk _ => hW.block k hk) hsl) hsb hlm hlm rfl)
      have HCE : Hid (∀ W, Below wr.heap.size wr W → W.cell? (ad.add n) = some (.slice la l.length lc)) := Lib.hid (fun W hW => (hW.cell (p := ad.add n) (by rw [add_block]; exact hadl)).trans hc0)
      have HBD : Hid (Below wr.heap.size wr wr.drew) := Lib.hid (Below.drew (Below.refl _ _))
      clear hl hmk hll hv hsl hlm hadl
      go_wp2_with fail
      go_region_held3 (fun w' => w'.cell? (ad.add n) = some (.slice la l.length lc)) (first | with_reducible exact HCE.out _ HB3.out | with_reducible exact HCE.out _ HB2.out | with_reducible exact HCE.out _ HBD.out) (first | (go_at_call 116; refine HMK.out.mono ?_; rintro en w2 ⟨v2, rfl, ho, hb⟩; obtain ⟨ta, tc, rfl, _, _, hts⟩ := ho.slice; have HTS := Lib.hid hts; have HB2 : Hid (Below wr.heap.size wr w2) := Lib.hid (belows_then HBD.out HBD.out.size hb); clear ho hb hts) | (go_at_call 16; refine (HSB.out _ HB2.out ta tc HTS.out).mono ?_; rintro en w4 ⟨rfl, hb⟩; have HB3 : Hid (Below wr.heap.size wr w4) := Lib.hid (belows_then HB2.out HB2.out.size hb); clear hb))
      have HBN := Lib.hid (HB.out.trans (HB3.out.mono HB.out.size))
      go_wp2_with fail
      go_roundw
      case rel => exact ⟨n + 1, by omega, by go_num, HBN.out⟩
      case measure => simp [Go.RowKit.intOf]; omega
    · go_wp2_with fail
      go_ret
      exact ⟨rfl, HB.out⟩
end Go.Proofs.YtgggpaacagbmcaaGreat


/- variorumbook: stillBalances. -/
set_option linter.unusedVariables false
set_option linter.unusedSimpArgs false
namespace Go.Proofs.YtgggpaacagbmcaaGreat
open Go.RowKit Go.Maps Go.Deep

set_option maxHeartbeats 8000000 in
set_option maxRecDepth 100000 in
theorem stillBal_any {w : World} {b : Nat} {cs : Array Value} {F G : Nat → Prop} {a6 a7 : Option Addr} {c6 c7 : Nat} {vs us : List Value} {L : List (List (Int × Int))} (hb : w.heap[b]? = some (.cells cs 48 (0, 0)))
    (h6 : cs[6]? = some (.slice a6 vs.length c6)) (h7 : cs[7]? = some (.slice a7 us.length c7)) (hs : Sl tBalV w F a6 vs) (ht : Sl tBalV w G a7 us) (hr : Reads w vs L) (hq : Reads w us L) (hn : vs.length ≤ 1000)
    (hL : ∀ (i : Nat) (l : List (Int × Int)), L[i]? = some l → l.length ≤ maxLen) :
    Calls Tryz.prog 41 #[.pointer (some ⟨b, 0, none⟩)] w fun e w' => e = .returned (.bool true) ∧ Below w.heap.size w w' := by
  have HS := Lib.hid hs
  have HT := Lib.hid ht
  have HR := Lib.hid hr
  have HQ := Lib.hid hq
  have HL := Lib.hid hL
  have hbl := blk_lt hb
  have HC6 : Hid (∀ W, Below w.heap.size w W → W.cell? ⟨b, 6, none⟩ = some (.slice a6 vs.length c6)) := Lib.hid (fun W hW => by rw [blk_cells (blk_below hb hW)]; exact h6)
  have HC7 : Hid (∀ W, Below w.heap.size w W → W.cell? ⟨b, 7, none⟩ = some (.slice a7 us.length c7)) := Lib.hid (fun W hW => by rw [blk_cells (blk_below hb hW)]; exact h7)
  clear hs ht hr hq hL hb h6 h7
  go_enter Tryz.func41, Tryz.ntmps41
  go_wp2_with fail
  go_loopw [3] (fun vi wr => ∃ n : Nat, n ≤ vs.length ∧ vi = .int .i64 n ∧ Below w.heap.size w wr) (fun vi _ => vs.length - (Go.RowKit.intOf vi).toNat)
  case atStart => exact ⟨0, Nat.zero_le _, rfl, Below.refl _ _⟩
  case round =>
    obtain ⟨n, hnn, rfl, hb⟩ := hrel
    have HB := Lib.hid hb
    have hbl' : b < wr.heap.size := Nat.lt_of_lt_of_le hbl hb.size
    have hz6 := HC6.out wr hb
    clear hb
    by_cases hlt : n < vs.length
    · have hlt2 : n < L.length := by have := HR.out.1; omega
      have hlt3 : n < us.length := by have := HQ.out.1; omega
      obtain ⟨l, hl⟩ : ∃ l, L[n]? = some l := ⟨_, List.getElem?_eq_getElem hlt2⟩
      have hlm := HL.out n l hl
      obtain ⟨la, lc, hv, hsl⟩ := (HR.out.keep HB.out).2 n vs[n] l (List.getElem?_eq_getElem hlt) hl
      obtain ⟨ma, mc, hu, hsm⟩ := (HQ.out.keep HB.out).2 n us[n] l (List.getElem?_eq_getElem hlt3) hl
      obtain ⟨ad, rfl, hadl, hc0⟩ := val_at (Sl.keep (fun k hk _ => HB.out.block k hk) HS.out) n hlt
      obtain ⟨bd, rfl, hbdl, hd0⟩ := val_at (Sl.keep (fun k hk _ => HB.out.block k hk) HT.out) n hlt3
      rw [hv] at hc0
      rw [hu] at hd0
      have HSB : Hid (Calls Tryz.prog 16 #[.slice la l.length lc, .slice ma l.length mc] wr.drew fun e w' => e = .returned (.bool true) ∧ Below wr.drew.heap.size wr.drew w') := Lib.hid (
        sameBal_is l l la ma lc mc wr.drew (Sl.keep (w := wr) (fun k hk _ => rfl) hsl) (Sl.keep (w := wr) (fun k hk _ => rfl) hsm) hlm hlm rfl)
      have HBD : Hid (Below wr.heap.size wr wr.drew) := Lib.hid (Below.drew (Below.refl _ _))
      have HCE : Hid (∀ W, Below wr.heap.size wr W → W.cell? ⟨b, 6, none⟩ = some (.slice (some ad) vs.length c6) ∧ W.cell? ⟨b, 7, none⟩ = some (.slice (some bd) us.length c7) ∧ W.cell? (ad.add n) = some (.slice la l.length lc) ∧ W.cell? (bd.add n) = some (.slice ma l.length mc)) := Lib.hid (fun W hW =>
        ⟨HC6.out W (HB.out.trans (hW.mono HB.out.size)), HC7.out W (HB.out.trans (hW.mono HB.out.size)), (hW.cell (p := ad.add n) (by rw [add_block]; exact hadl)).trans hc0, (hW.cell (p := bd.add n) (by rw [add_block]; exact hbdl)).trans hd0⟩)
      clear hl hlm hv hsl hu hsm hadl hbdl hc0 hd0
      go_wp2_with fail
      go_region_held3 (fun w' => w'.cell? ⟨b, 6, none⟩ = some (.slice (some ad) vs.length c6) ∧ w'.cell? ⟨b, 7, none⟩ = some (.slice (some bd) us.length c7) ∧ w'.cell? (ad.add n) = some (.slice la l.length lc) ∧ w'.cell? (bd.add n) = some (.slice ma l.length mc)) (first | with_reducible exact HCE.out _ HB3.out | with_reducible exact HCE.out _ HBD.out) ((go_at_call 16; refine HSB.out.mono ?_; rintro en w4 ⟨rfl, hb⟩; have HB3 : Hid (Below wr.heap.size wr w4) := Lib.hid (belows_then HBD.out HBD.out.size hb); clear hb))
      have HBN := Lib.hid (HB.out.trans (HB3.out.mono HB.out.size))
      go_wp2_with fail
      go_roundw
      case rel => exact ⟨n + 1, by omega, by go_num, HBN.out⟩
      case measure => simp [Go.RowKit.intOf]; omega
    · go_wp2_with fail
      go_ret
      exact ⟨rfl, HB.out⟩
end Go.Proofs.YtgggpaacagbmcaaGreat
