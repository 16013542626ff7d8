/- A region that draws its order, shown by what holds between its operations, whatever was done so far. -/
import Derived.Orders
import Derived.Deep.QuietTactic
import Derived.Deep.RegionHeld3
import Derived.Test.YtgggpaacagbmcaaGreatX13GroupTells
import Derived.Laws.AppendOwnNone
import Derived.Test.YtgggpaacagbmcaaGreatX26GroupTells
import Derived.Test.YtgggpaacagbmcaaGreatX18GroupTells
set_option linter.unusedVariables false
set_option linter.unusedSimpArgs false
namespace Go.Proofs.YtgggpaacagbmcaaGreat
open Go

/-- each operation waits for earlier ones alone -/
def backB (l : List Oper) : Bool := (List.range l.length).all fun i => ((l[i]?).map fun o => o.after.all fun e => !Region.binds .any e || decide (e.on < i)).getD true
def updD (d : Nat → Bool) (i : Nat) : Nat → Bool := fun j => j == i || d j

section
variable {P : Program} {Q : Exit → Act → World → Prop}

theorem wpAny_inv {md : Region.Mode} {ops : Array Oper} {I : (Nat → Bool) → Act → World → Prop}
    (hEnd : ∀ listed a w, listed.size = ops.size → I (fun i => listed.getD i false) a w → Region.ready md ops listed = [] → Q .normal a w)
    (hS : ∀ i listed a w, listed.size = ops.size → I (fun i => listed.getD i false) a w → i ∈ Region.ready md ops listed → wpOp P ops Q i (I (fun j => (listed.setIfInBounds i true).getD j false)) a w) :
    ∀ (fuel : Nat) (listed : Array Bool) (a : Act) (w : World), listed.size = ops.size → (listed.toList.countP (fun b => !b)) ≤ fuel → I (fun i => listed.getD i false) a w → wpAny P md ops Q fuel listed a w := by
  intro fuel
  induction fuel with
  | zero =>
    intro listed a w hs hc hI
    have hr : Region.ready md ops listed = [] := by
      unfold Region.ready
      rw [List.filter_eq_nil_iff]
      intro i hi hc'
      rw [List.mem_range] at hi
      have hz : listed.toList.countP (fun b => !b) = 0 := by omega
      rw [List.countP_eq_zero] at hz
      have hlt : i < listed.size := by omega
      have := hz listed[i] (by simp)
      simp [hlt] at hc' this
      rw [hc'.1] at this
      cases this
    exact ⟨hr, hEnd listed a w hs hI hr⟩
  | succ fuel ih =>
    intro listed a w hs hc hI
    refine ⟨fun hr => hEnd listed a w hs hI hr, fun i hi => ?_⟩
    refine wpOp_mono (fun a' w' h => ih _ a' w' (by simpa using hs) ?_ h) (hS i listed a w hs hI hi)
    have hun : listed.getD i true = false := by
      unfold Region.ready at hi
      rw [List.mem_filter] at hi
      have := hi.2
      simp at this
      simpa using this.1
    have hlt : i < listed.size := by
      rcases Nat.lt_or_ge i listed.size with h | h
      · exact h
      · simp [Array.getElem?_eq_none h] at hun
    have hv : listed[i] = false := by simpa [hlt] using hun
    have : (listed.setIfInBounds i true).toList.countP (fun b => !b) + 1 = listed.toList.countP (fun b => !b) := by
      rw [Array.toList_setIfInBounds, List.countP_set (by simpa using hlt)]
      have hg : listed.toList[i] = false := by simpa using hv
      rw [hg]
      have hpos : 0 < listed.toList.countP (fun b => !b) := List.countP_pos_iff.2 ⟨false, by rw [← hg]; exact List.getElem_mem _, rfl⟩
      simp only [Bool.not_false, Bool.not_true, if_true, Bool.false_eq_true, if_false]
      omega
    omega

/-- what is asked of each operation -/
def InvSteps (P : Program) (Q : Exit → Act → World → Prop) (I : (Nat → Bool) → Act → World → Prop) : List Oper → Nat → Prop
  | [], _ => True
  | o :: l, k => (∀ d a w, I d a w → d k = false → (∀ e ∈ o.after.toList, Region.binds .any e = true → d e.on = true) → o.wp P a w (I (updD d k)) Q) ∧ InvSteps P Q I l (k + 1)
theorem InvSteps.at {I : (Nat → Bool) → Act → World → Prop} : ∀ {l : List Oper} {k : Nat}, InvSteps P Q I l k → ∀ {i : Nat} {o : Oper}, l[i]? = some o →
    ∀ d a w, I d a w → d (k + i) = false → (∀ e ∈ o.after.toList, Region.binds .any e = true → d e.on = true) → o.wp P a w (I (updD d (k + i))) Q
  | [], _, _, i, o, h => by simp at h
  | x :: l, k, hs, 0, o, h => by
    simp at h
    subst h
    exact hs.1
  | x :: l, k, hs, i + 1, o, h => by
    have := InvSteps.at (l := l) (k := k + 1) hs.2 (i := i) (o := o) (by simpa using h)
    rw [show k + (i + 1) = k + 1 + i from by omega]
    exact this

theorem wp_region_inv {id : Nat} {a : Act} {w : World} {l : List Oper} (hm : P.follows .mixedOrders = true) (hB : backB l = true) (hg : l.all (fun o => o.guard.isNone) = true) (I : (Nat → Bool) → Act → World → Prop)
    (hC : ∀ d d' a w, (∀ i, i < l.length → d i = d' i) → I d a w → I d' a w)
    (h0 : I (fun _ => false) a w.drew) (hEnd : ∀ d a w, (∀ i, i < l.length → d i = true) → I d a w → Q .normal a w) (hS : InvSteps P Q I l 0) :
    (Code.region id l.toArray true).wp P Q a w := by
  refine wp_region_any hm (wpAny_inv (I := I) ?_ ?_ _ _ _ _ (by simp) ?_ ?_)
  · intro listed a w hs hI hr
    refine hEnd _ a w (fun i hi => ?_) hI
    -- the least that is not done would be ready
    rcases Classical.em (∀ i, i < l.length → listed.getD i false = true) with h | h
    · exact h i hi
    · exfalso
      have hex : ∃ n, n < l.length ∧ listed.getD n false = false := by
        rcases Classical.em (∃ n, n < l.length ∧ listed.getD n false = false) with h' | h'
        · exact h'
        · refine absurd (fun n hn => ?_) h
          cases hv : listed.getD n false with
          | true => rfl
          | false => exact absurd ⟨n, hn, hv⟩ h'
      have least : ∀ n, (n < l.length ∧ listed.getD n false = false) → ∃ m, m < l.length ∧ listed.getD m false = false ∧ ∀ j, j < m → listed.getD j false = true := by
        intro n
        induction n using Nat.strongRecOn with
        | _ n ih =>
          intro hn
          rcases Classical.em (∃ j, j < n ∧ listed.getD j false = false) with ⟨j, hj, hv⟩ | h'
          · exact ih j hj ⟨by omega, hv⟩
          · refine ⟨n, hn.1, hn.2, fun j hj => ?_⟩
            cases hv : listed.getD j false with
            | true => rfl
            | false => exact absurd ⟨j, hj, hv⟩ h'
      obtain ⟨n, hn⟩ := hex
      obtain ⟨m, hm1, hm2, hm3⟩ := least n hn
      have hsz : listed.size = l.length := by simpa using hs
      have : m ∈ Region.ready .any l.toArray listed := by
        unfold Region.ready
        rw [List.mem_filter]
        refine ⟨by simpa using hm1, ?_⟩
        have hlt : m < listed.size := by omega
        have h1 : listed.getD m true = false := by simpa [hlt] using hm2
        rw [h1]
        have hbk := hB
        unfold backB at hbk
        rw [List.all_eq_true] at hbk
        have hb1 := hbk m (by simpa using hm1)
        rw [List.getElem?_eq_getElem hm1] at hb1
        simp only [Option.map_some, Option.getD_some] at hb1
        simp only [List.getElem?_toArray, List.getElem?_eq_getElem hm1, Option.map_some, Option.getD_some, Bool.not_false, Bool.true_and]
        rw [Array.all_eq_true'] at hb1 ⊢
        intro e he
        have := hb1 e he
        cases hbe : Region.binds .any e with
        | false => simp
        | true =>
          rw [hbe] at this
          simp only [Bool.not_true, Bool.false_or, decide_eq_true_eq] at this
          rw [hm3 e.on this]
          simp
      rw [hr] at this
      cases this
  · intro i listed a w hs hI hi
    unfold Region.ready at hi
    rw [List.mem_filter, List.mem_range] at hi
    obtain ⟨hi1, hi2⟩ := hi
    have hi1' : i < l.length := by simpa using hi1
    have hsz : listed.size = l.length := by simpa using hs
    have hlt : i < listed.size := by omega
    rw [Bool.and_eq_true] at hi2
    obtain ⟨h1, h2⟩ := hi2
    simp only [List.getElem?_toArray, List.getElem?_eq_getElem hi1', Option.map_some, Option.getD_some] at h2
    have hun : listed.getD i false = false := by
      have : listed.getD i true = false := by simpa using h1
      simpa [hlt] using this
    have ho : l.toArray[i]? = some l[i] := by simp [hi1']
    unfold wpOp
    rw [ho]
    simp only
    have hgi : l[i].guard = none := by
      have := List.all_eq_true.1 hg l[i] (List.getElem_mem hi1')
      simpa using this
    have hw : Region.wanted l[i] (yielded l.toArray a.tmps) = true := by simp [Region.wanted, hgi]
    rw [if_pos hw]
    left
    have hst := hS.at (List.getElem?_eq_getElem hi1') _ a w hI (by simpa using hun) (fun e he hb => by
      rw [Array.all_eq_true'] at h2
      have := h2 e (by simpa using he)
      simpa [hb] using this)
    refine Oper.wp_mono (fun a' w' h => hC _ _ a' w' (fun j hj => ?_) h) hst
    unfold updD
    have hj' : j < listed.size := by omega
    simp only [Nat.zero_add]
    by_cases hji : j = i
    · subst hji
      simp [hj']
    · rw [show (j == i) = false from by simpa using hji]
      have : (listed.setIfInBounds i true).getD j false = listed.getD j false := by
        simp [Array.getElem?_setIfInBounds, Ne.symm hji, Array.getD_eq_getD_getElem?]
      rw [this]
      rfl
  · rw [Array.toList_replicate, List.countP_replicate]
    simp
  · exact hC (fun _ => false) _ _ _ (fun i hi => by simp [hi]) h0
end
end Go.Proofs.YtgggpaacagbmcaaGreat


/- append at a step of a region, where the list behind may be nil. -/
set_option linter.unusedVariables false
set_option linter.unusedSimpArgs false
namespace Go.Proofs.YtgggpaacagbmcaaGreat
open Go.RowKit Go.Maps
section
variable {P : Program} {e : TypeId} {α : Type} {T : Ty P e α} {ops : Array Oper} {o : Oper} {a : Act} {w : World} {K : Act → World → Prop} {Q : Exit → Act → World → Prop} {E : Prop}
theorem step_appA (hgd : o.guard = none) (s x : Operand) (t : TypeId) (ho : o.op = .call { callee := .builtin .append, args := #[s, x], argTypes := #[t, t] })
    (i : TypeInfo) (z : Value) (bytes : Nat) (ht : P.underlying t = some (.slice e)) (hi : P.info? e = some i) (hz : i.zero = some z) (hsize : i.size = T.n) (hby : i.bytes = bytes) (hzs : z.cells.size = T.n) (hsz : 0 < T.n)
    (h1c : ∀ (w : World) (F : Nat → Prop) (c : List Value) (x : α), T.R w F c x → ∀ u ∈ c, u.oneCell' = true)
    (base : Nat) (v : Value) (xs : List α) (hs : a.eval s = v) (hown : OwnL T w base v xs) (ad : Option Addr) (c : Nat) (ys : List α) (hx : a.eval x = .slice ad ys.length c) (hnil : ad = none → ys = [] ∧ c = 0)
    (hys : Sl T w (fun k => some k ≠ v.ownBlock ∧ k < w.heap.size) ad ys) (h63 : xs.length + ys.length ≤ maxLen) (hbytes : (xs.length + ys.length) * bytes ≤ 140737488355328) (hbase : base ≤ w.heap.size)
    (h : ∀ v' w', OwnL T w' base v' (xs ++ ys) → w.grownBy w' v.ownBlock → (v'.ownBlock = v.ownBlock ∨ v'.ownBlock = some w.heap.size) → K (a.put o.dst v') w') :
    if Region.wanted o (yielded ops a.tmps) = true then Oper.wp P o a w K Q else E := by
  cases ad with
  | some ad => exact step_app hgd s x t ho i z bytes ht hi hz hsize hby hzs hsz h1c base v xs hs hown ad c ys hx hys h63 hbytes hbase h
  | none =>
    obtain ⟨rfl, rfl⟩ := hnil rfl
    obtain ⟨css, hr, h2⟩ := hown
    have hw : Region.wanted o (yielded ops a.tmps) = true := by simp [Region.wanted, hgd]
    rw [if_pos hw]
    have hrun := run_append_owned_none (P := P) (w := w) base t o.type e i T.n ht hi v xs.length css.flatten hr
    unfold Oper.wp
    have hx' : a.eval x = .slice none 0 0 := hx
    simp [execOp, ho, resolve, invoke, builtin, hs, hx', hrun, Result.andThen]
    exact h v w (by rw [List.append_nil]; exact ⟨css, hr, h2⟩) ⟨rfl, rfl, rfl, Nat.le_refl _, fun _ _ _ => rfl⟩ (.inl rfl)
end
end Go.Proofs.YtgggpaacagbmcaaGreat

/- Regions that draw their order, at an act that is a letter: what each operation makes of it. -/
set_option linter.unusedVariables false
set_option linter.unusedSimpArgs false
namespace Go.Proofs.YtgggpaacagbmcaaGreat
open Go Go.RowKit Go.Maps

theorem put_same {a : Act} {i : Nat} {v : Value} (h : i < a.tmps.size) : (a.put (some i) v).eval (.tmp i) = v := by
  simp [Act.put, Act.eval, h]
theorem put_ne {a : Act} {i j : Nat} {v : Value} (h : i ≠ j) : (a.put (some i) v).eval (.tmp j) = a.eval (.tmp j) := by
  simp [Act.put, Act.eval, Array.getD_eq_getD_getElem?, Array.getElem?_setIfInBounds, h]
theorem put_size {a : Act} {d : Option Tmp} {v : Value} : (a.put d v).tmps.size = a.tmps.size := by
  unfold Act.put
  split <;> simp
theorem put_defers {a : Act} {d : Option Tmp} {v : Value} : (a.put d v).defers = a.defers := by
  unfold Act.put
  split <;> rfl
theorem put_none {a : Act} {v : Value} : a.put none v = a := rfl
section
variable {P : Program} {o : Oper} {a : Act} {w w' : World} {v : Value} {K : Act → World → Prop} {Q : Exit → Act → World → Prop}
theorem op_run (h : (execOp a.eval o).run P w = .ok (.value v) w') (hk : K (a.put o.dst v) w') : o.wp P a w K Q := by
  unfold Oper.wp
  rw [h]
  exact hk
theorem op_skip (h : (execOp a.eval o).run P w = .ok .skip w') (hk : K (a.put o.dst undef) w') : o.wp P a w K Q := by
  unfold Oper.wp
  rw [h]
  exact hk
theorem op_move (s : Operand) (ho : o.op = .move s) (hs : a.eval s = v) (hk : K (a.put o.dst v) w) : o.wp P a w K Q :=
  op_run (by simp [execOp, ho, hs]) hk
theorem op_nil (s : Operand) (p : Addr) (ho : o.op = .nilCheck s) (hs : a.eval s = .pointer (some p)) (hk : K (a.put o.dst (.pointer (some p))) w) : o.wp P a w K Q :=
  op_run (by simp [execOp, ho, hs]) hk
theorem op_field (st f : Nat) (s : Operand) (p : Addr) (ho : o.op = .fieldAddr st s f) (hs : a.eval s = .pointer (some p)) (hr : (Instr.fieldAt st (.pointer (some p)) f).run P w = .ok v w) (hk : K (a.put o.dst v) w) : o.wp P a w K Q :=
  op_run (by simp [execOp, ho, hs, hr, Sem.run_bind, Result.andThen_ok]) hk
theorem op_load (t : TypeId) (s : Operand) (p : Addr) (ho : o.op = .load t s) (hs : a.eval s = .pointer (some p)) (hr : (Instr.loadAt t (.pointer (some p))).run P w = .ok v w) (hk : K (a.put o.dst v) w) : o.wp P a w K Q :=
  op_run (by simp [execOp, ho, hs, hr, Sem.run_bind, Result.andThen_ok]) hk
theorem op_un (op : UnOp) (t : TypeId) (s : Operand) (u : Value) (ho : o.op = .unOp op t s) (hs : a.eval s = u) (hr : (Op.unary op u).run P w = .ok v w) (hk : K (a.put o.dst v) w) : o.wp P a w K Q :=
  op_run (by simp [execOp, ho, hs, hr, Sem.run_bind, Result.andThen_ok]) hk
theorem op_build1 (t : TypeId) (s : Operand) (u : Value) (ho : o.op = .buildSlice t 1 #[(0, s)]) (hs : a.eval s = u) (hr : (Instr.buildSlice t 1 #[(0, u)]).run P w = .ok v w') (hk : K (a.put o.dst v) w') : o.wp P a w K Q :=
  op_run (by simp [execOp, ho, hs, hr, Sem.run_bind, Result.andThen_ok]) hk
theorem op_store (t : TypeId) (s x : Operand) (p : Addr) (u : Value) (ho : o.op = .store t s x) (hd : o.dst = none) (hs : a.eval s = .pointer (some p)) (hx : a.eval x = u) (hr : (Instr.storeAt t (.pointer (some p)) u).run P w = .ok () w') (hk : K a w') : o.wp P a w K Q :=
  op_skip (w' := w') (by simp [execOp, ho, hs, hx, hr, Sem.run_bind, Result.andThen_ok]) (by rw [hd]; exact hk)
theorem op_app {e : TypeId} {α : Type} {T : Ty P e α} (hgd : o.guard = none) (s x : Operand) (t : TypeId) (ho : o.op = .call { callee := .builtin .append, args := #[s, x], argTypes := #[t, t] })
    (i : TypeInfo) (z : Value) (bytes : Nat) (ht : P.underlying t = some (.slice e)) (hi : P.info? e = some i) (hz : i.zero = some z) (hsize : i.size = T.n) (hby : i.bytes = bytes) (hzs : z.cells.size = T.n) (hsz : 0 < T.n)
    (h1c : ∀ (w : World) (F : Nat → Prop) (c : List Value) (x : α), T.R w F c x → ∀ u ∈ c, u.oneCell' = true)
    (base : Nat) (v : Value) (xs : List α) (hs : a.eval s = v) (hown : OwnL T w base v xs) (ad : Addr) (c : Nat) (ys : List α) (hx : a.eval x = .slice (some ad) ys.length c)
    (hys : Sl T w (fun k => some k ≠ v.ownBlock ∧ k < w.heap.size) (some ad) ys) (h63 : xs.length + ys.length ≤ maxLen) (hbytes : (xs.length + ys.length) * bytes ≤ 140737488355328) (hbase : base ≤ w.heap.size)
    (h : ∀ v' w', OwnL T w' base v' (xs ++ ys) → w.grownBy w' v.ownBlock → (v'.ownBlock = v.ownBlock ∨ v'.ownBlock = some w.heap.size) → K (a.put o.dst v') w') : o.wp P a w K Q := by
  have := step_app (ops := #[]) (E := True) hgd s x t ho i z bytes ht hi hz hsize hby hzs hsz h1c base v xs hs hown ad c ys hx hys h63 hbytes hbase (Q := Q) h
  rw [if_pos (by simp [Region.wanted, hgd])] at this
  exact this
end
end Go.Proofs.YtgggpaacagbmcaaGreat


/- variorumbook: marks of balances; marked. -/
set_option linter.unusedVariables false
set_option linter.unusedSimpArgs false
namespace Go.Proofs.YtgggpaacagbmcaaGreat
open Go.RowKit Go.Maps Go.Deep

/-- the marks of list i, from one place on -/
def marks (i f n : Nat) : List (Int × Int) := (List.range n).map (fun (k : Nat) => ((-1000 * (i : Int) - ((f : Int) + (k : Int)) - 1 : Int), (0 : Int)))
theorem marks_len (i f n : Nat) : (marks i f n).length = n := by unfold marks; rw [List.length_map, List.length_range]
theorem marks_succ (i f n : Nat) : marks i f (n + 1) = marks i f n ++ [(-1000 * (i : Int) - ((f : Int) + (n : Int)) - 1, 0)] := by
  unfold marks
  rw [List.range_succ, List.map_append]
  rfl
theorem marks_app (i n : Nat) : ∀ m, marks i 0 n ++ marks i n m = marks i 0 (n + m)
  | 0 => by simp [marks]
  | m + 1 => by
    rw [marks_succ, ← List.append_assoc, marks_app i n m, ← Nat.add_assoc, marks_succ]
    congr 4
    omega

set_option maxHeartbeats 8000000 in
set_option maxRecDepth 100000 in
theorem markBal_any (i f n : Nat) (hi : i ≤ 1000) (hf : f ≤ 200000) (hn : n ≤ 200000) (w : World) :
    Calls Tryz.prog 116 #[.int .i64 (i : Int), .int .i64 (f : Int), .int .i64 (n : Int)] w fun e w' => ∃ v, e = .returned v ∧ OwnL tBal w' w.heap.size v (marks i f n) ∧ Below w.heap.size w w' := by
  obtain ⟨i0, hi0, hz0, hz1, hz2⟩ := info_parts infoBal
  have w1 : IntKind.i64.wrap (-1000 * (i : Int)) = -1000 * (i : Int) := wrap_is (by omega) (by omega)
  have w0 : IntKind.i64.wrap ((f : Int) + (n : Int)) = (f : Int) + (n : Int) := wrap_is (by omega) (by omega)
  go_enter Tryz.func116, Tryz.ntmps116
  go_wp2_with fail
  go_loopw [7, 8] (fun vo vi wr => ∃ (m : Nat) (k : Int) (vx : Value), vx = vo ∧ m ≤ n ∧ vi = .int .i64 k ∧ k = (f : Int) + (m : Int) ∧ OwnL tBal wr w.heap.size vx (marks i f m) ∧ Below w.heap.size w wr) (fun _ vi _ => f + n - (intOf vi).toNat)
  case atStart => exact ⟨0, _, _, rfl, Nat.zero_le _, rfl, by simp, OwnL.nil _ _, Below.refl _ _⟩
  case round =>
    obtain ⟨m, k, vo, rfl, hm, rfl, hk, ho, hb⟩ := hrel
    have HO := Lib.hid ho
    have HB := Lib.hid hb
    have HK := Lib.hid hk
    clear ho hb
    by_cases hlt : m < n
    · have hlt' : k < (f : Int) + (n : Int) := by omega
      have w2 : IntKind.i64.wrap (-1000 * (i : Int) - k) = -1000 * (i : Int) - k := wrap_is (by omega) (by omega)
      have w3 : IntKind.i64.wrap (-1000 * (i : Int) - k - 1) = -1000 * (i : Int) - k - 1 := wrap_is (by omega) (by omega)
      have w4 : IntKind.i64.wrap (k + 1) = k + 1 := wrap_is (by omega) (by omega)
      have HX : Hid (I64 (-1000 * (i : Int) - k - 1)) := Lib.hid (i64_ofB (by omega) (by omega))
      have HMS : Hid (marks i f m ++ [(-1000 * (i : Int) - k - 1, 0)] = marks i f (m + 1)) := Lib.hid (by rw [marks_succ, hk])
      have HOA := Lib.hid (HO.out.alloc (.cells #[.int .i64 (-1000 * (i : Int) - k - 1), .int .i64 0] 62))
      have HBA := Lib.hid (HB.out.alloc HB.out.size (.cells #[.int .i64 (-1000 * (i : Int) - k - 1), .int .i64 0] 62))
      have HSL : Hid (Sl tBal (wr.alloc (.cells #[.int .i64 (-1000 * (i : Int) - k - 1), .int .i64 0] 62)) (fun kk => some kk ≠ vo.ownBlock ∧ kk < (wr.alloc (.cells #[.int .i64 (-1000 * (i : Int) - k - 1), .int .i64 0] 62)).heap.size) (some ⟨wr.heap.size, 0, none⟩) [(-1000 * (i : Int) - k - 1, 0)]) :=
        Lib.hid (sl_one2 tBal (x := (-1000 * (i : Int) - k - 1, 0)) rfl (blk_new wr _) ⟨fun e => by have := (HO.out.lt _ e.symm).2; omega, by simp⟩ (bal_mk (-1000 * (i : Int) - k - 1, 0) HX.out (show I64 0 by decide)))
      have hml := marks_len i f m
      have h63 : (marks i f m).length + [((-1000 * (i : Int) - k - 1, 0) : Int × Int)].length ≤ maxLen := by simp only [List.length_cons, List.length_nil]; unfold maxLen; omega
      have hby : ((marks i f m).length + [((-1000 * (i : Int) - k - 1, 0) : Int × Int)].length) * 16 ≤ 140737488355328 := by simp only [List.length_cons, List.length_nil]; omega
      clear hml hk
      go_wp2_with (at_builtin; refine wp_app (T := tBal) rfl _ _ 49 rfl i0 (.agg #[.int .i64 0, .int .i64 0]) 16 Tryz.underlying49 hi0 hz0 hz1 hz2 rfl (by decide) bal_one w.heap.size vo (marks i f m) rfl HOA.out ⟨wr.heap.size, 0, none⟩ 1 [(-1000 * (i : Int) - k - 1, 0)] rfl HSL.out h63 hby HBA.out.size ?_; intro v2 w2 hown hg hnil hat; have HB2 := Lib.hid (Below.grown HBA.out hg HBA.out.size (fun k e => (HOA.out.lt k e).1)); have HO2 := Lib.hid hown; clear hown hg hnil hat)
      go_roundw
      case rel => exact ⟨m + 1, _, _, rfl, by omega, rfl, by have := HK.out; push_cast; omega, by rw [← HMS.out]; exact HO2.out, HB2.out⟩
      case measure => have := HK.out; simp [intOf]; omega
    · obtain rfl : m = n := by omega
      have hnl : ¬ k < (f : Int) + (m : Int) := by omega
      go_wp2_with fail
      go_ret
      exact ⟨_, rfl, HO.out, HB.out⟩
end Go.Proofs.YtgggpaacagbmcaaGreat
