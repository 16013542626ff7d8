/- Steps of regions that draw their order: an append to a list of the call's own, a store into a map. -/
import Derived.Test.YtfnmlpnncjhnmaaGreatX12TrialTells
import Derived.Test.YtfnmlpnncjhnmaaGreatX03TrialTells
import Derived.Deep.RegionLaw
import Derived.Test.YtfnmlpnncjhnmaaGreatX17TrialTells
set_option linter.unusedVariables false
set_option linter.unusedSimpArgs false
namespace Go.Proofs.YtfnmlpnncjhnmaaGreat
open Go.RowKit Go.Maps

section
variable {P : Program} {e : TypeId} {α : Type} {T : Ty P e α} {ops : Array Oper} {o : Oper} {a : Act} {w : World} {K : Act → World → Prop} {Q : Exit → Act → World → Prop} {E : Prop}
theorem step_app (hgd : o.guard = none) (s x : Operand) (t : TypeId) (ho : o.op = .call { callee := .builtin .append, args := #[s, x], argTypes := #[t, t] })
    (i : TypeInfo) (z : Value) (bytes : Nat) (ht : P.underlying t = some (.slice e)) (hi : P.info? e = some i) (hz : i.zero = some z) (hsize : i.size = T.n) (hby : i.bytes = bytes) (hzs : z.cells.size = T.n) (hsz : 0 < T.n)
    (h1c : ∀ (w : World) (F : Nat → Prop) (c : List Value) (x : α), T.R w F c x → ∀ u ∈ c, u.oneCell' = true)
    (base : Nat) (v : Value) (xs : List α) (hs : a.eval s = v) (hown : OwnL T w base v xs) (ad : Addr) (c : Nat) (ys : List α) (hx : a.eval x = .slice (some ad) ys.length c)
    (hys : Sl T w (fun k => some k ≠ v.ownBlock ∧ k < w.heap.size) (some ad) ys) (h63 : xs.length + ys.length ≤ maxLen) (hbytes : (xs.length + ys.length) * bytes ≤ 140737488355328) (hbase : base ≤ w.heap.size)
    (h : ∀ v' w', OwnL T w' base v' (xs ++ ys) → w.grownBy w' v.ownBlock → (v'.ownBlock = v.ownBlock ∨ v'.ownBlock = some w.heap.size) → K (a.put o.dst v') w') :
    if Region.wanted o (yielded ops a.tmps) = true then Oper.wp P o a w K Q else E := by
  have hw : Region.wanted o (yielded ops a.tmps) = true := by simp [Region.wanted, hgd]
  rw [if_pos hw]
  obtain ⟨css, h1, h2, h3, h4⟩ := hown
  obtain ⟨news, n2, n4, n3, n5⟩ := hys.rows
  obtain ⟨v', w', hrun, r1, r2, r3, r4⟩ := run_append_own_at (P := P) w base t o.type e i z T.n bytes ht hi hz hsize hby hzs hsz v xs.length css.flatten h1 ad ys.length c news.flatten (by rw [flat_len n3, n2]) n5 (by
    intro u hu
    obtain ⟨c', hc', hu'⟩ := List.mem_flatten.1 hu
    obtain ⟨k, hk, rfl⟩ := List.mem_iff_getElem.1 hc'
    exact h1c w _ _ _ (n4 k _ _ (List.getElem?_eq_getElem hk) (List.getElem?_eq_getElem (by omega))) u hu') h63 hbytes hbase
  unfold Oper.wp
  simp [execOp, ho, resolve, invoke, builtin, hs, hx, hrun, Result.andThen]
  exact h v' w' (OwnL.app h2 h3 h4 n2 n3 n4 r1 r2 r4) r2 r4
end
section
variable {P : Program} {t : TypeId} {κ ν : Type} [DecidableEq κ] {M : MK P t κ} {ev : ν → Value} {ops : Array Oper} {o : Oper} {a : Act} {w : World} {K : Act → World → Prop} {Q : Exit → Act → World → Prop} {E : Prop}
theorem step_update (hg : o.guard = none) (m x v : Operand) (T : TypeId) (hop : o.op = Op.mapUpdate T m x v) (e : TypeId) (ht : P.underlying T = some (.map t e)) (b : Nat) (l : List (κ × ν)) (k : κ) (y : ν)
    (hm : a.eval m = .map (some b)) (hx : a.eval x = M.ek k) (hv : a.eval v = ev y) (h : MapIs M ev w b l) (hk : M.ok k)
    (hK : ∀ w', MapIs M ev w' b (ins l k y) → OnlyB w w' b → K (a.put o.dst undef) w') : if Region.wanted o (yielded ops a.tmps) = true then Oper.wp P o a w K Q else E := by
  have hw : Region.wanted o (yielded ops a.tmps) = true := by simp [Region.wanted, hg]
  rw [if_pos hw]
  obtain ⟨w', hrun, r1, r2⟩ := h.update ht hk y
  unfold Oper.wp
  simp [execOp, hop, hm, hx, hv, hrun, Result.andThen]
  exact hK w' r1 r2
end

theorem look_ins {κ ν : Type} [DecidableEq κ] (l : List (κ × ν)) (k : κ) (v : ν) (j : κ) : look (ins l k v) j = if j = k then some v else look l j := by
  induction l with
  | nil =>
    by_cases h : j = k
    · subst h; simp [ins, look]
    · have : ¬ k = j := fun e => h e.symm
      simp [ins, look, h, this]
  | cons x r ih =>
    unfold ins
    by_cases hx : x.1 = k
    · rw [if_pos hx]
      by_cases h : j = k
      · subst h; simp [look]
      · have h1 : ¬ k = j := fun e => h e.symm
        have h2 : ¬ x.1 = j := fun e => h (e.symm.trans hx)
        simp [look, h, h1, h2]
    · rw [if_neg hx]
      by_cases hj : x.1 = j
      · have : ¬ j = k := fun e => hx (hj.trans e)
        simp [look, hj, this]
      · have e1 : look (x :: ins r k v) j = look (ins r k v) j := by simp [look, hj]
        have e2 : look (x :: r) j = look r j := by simp [look, hj]
        rw [e1, e2, ih]
end Go.Proofs.YtfnmlpnncjhnmaaGreat


/- trial.Plus: lists of balances together. -/
set_option linter.unusedVariables false
set_option linter.unusedSimpArgs false
namespace Go.Proofs.YtfnmlpnncjhnmaaGreat
open Go.RowKit Go.Maps Go.Sort Go.Shelf

abbrev nilS : Value := .slice none 0 0
/-- block b is a map of lists of whole numbers, each of the call's own -/
structure Grp (w : World) (b base : Nat) (keys : List Int) (grp : Int → List Int) : Prop where
  ex : ∃ vs : List (Int × Value), MapIs mInt (fun v : Value => v) w b vs ∧ vs.map (·.1) = keys ∧ (∀ k, OwnL tInt w base ((look vs k).getD nilS) (grp k)) ∧
    (∀ k k', k ≠ k' → ((look vs k).getD nilS).ownBlock = none ∨ ((look vs k).getD nilS).ownBlock ≠ ((look vs k').getD nilS).ownBlock)
theorem Grp.below {w w' : World} {b base : Nat} {keys : List Int} {grp : Int → List Int} (h : Grp w b base keys grp) (hb : Below w.heap.size w w') : Grp w' b base keys grp := by
  obtain ⟨vs, h1, h2, h3, h4⟩ := h.ex
  exact ⟨vs, h1.keep (hb.block b h1.lt), h2, fun k => (h3 k).below hb, h4⟩
theorem Grp.lt {w : World} {b base : Nat} {keys : List Int} {grp : Int → List Int} (h : Grp w b base keys grp) : b < w.heap.size := by
  obtain ⟨vs, h1, _⟩ := h.ex
  exact h1.lt
theorem Grp.new (w : World) (base : Nat) : Grp (w.alloc (.map #[] 0)) w.heap.size base [] (fun _ => []) :=
  ⟨[], MapIs.new _ _ w, rfl, fun k => OwnL.nil _ _, fun k k' h => .inl rfl⟩
theorem Grp.oks {w : World} {b base : Nat} {keys : List Int} {grp : Int → List Int} (h : Grp w b base keys grp) : ∀ k ∈ keys, I64 k := by
  obtain ⟨vs, h1, h2, _⟩ := h.ex
  intro k hk
  rw [← h2] at hk
  obtain ⟨x, hx, rfl⟩ := List.mem_map.1 hk
  exact h1.oks x hx
theorem zeroIL (w : World) : (zeroValue 71).run Tryz.prog w = .ok nilS w := by kernel_rfl

def addKey (ks : List Int) (k : Int) : List Int := if k ∈ ks then ks else ks ++ [k]
/-- one more number under a key -/
theorem Grp.step {w : World} {b base : Nat} {keys : List Int} {grp : Int → List Int} {vs : List (Int × Value)} (h1 : MapIs mInt (fun v : Value => v) w b vs) (h2 : vs.map (·.1) = keys) (h3 : ∀ k, OwnL tInt w base ((look vs k).getD nilS) (grp k))
    (h4 : ∀ k k', k ≠ k' → ((look vs k).getD nilS).ownBlock = none ∨ ((look vs k).getD nilS).ownBlock ≠ ((look vs k').getD nilS).ownBlock) {k : Int} {v v' : Value} {x : Int} {w1 w2 w3 : World} (hv : (look vs k).getD nilS = v)
    (hb1 : Below w.heap.size w w1) (hg : w1.grownBy w2 v.ownBlock) (ho : OwnL tInt w2 base v' (grp k ++ [x])) (hat : v'.ownBlock = v.ownBlock ∨ v'.ownBlock = some w1.heap.size) (hm : MapIs mInt (fun v : Value => v) w3 b (ins vs k v')) (hob : OnlyB w2 w3 b) :
    Grp w3 b base (addKey keys k) (fun j => if j = k then grp k ++ [x] else grp j) := by
  have hmap : ∀ {W : World} {u : Value} {xs : List Int}, OwnL tInt W base u xs → (∃ es c, W.heap[b]? = some (.map es c)) → u.ownBlock ≠ some b := by
    intro W u xs hu ⟨es, c, hc⟩ he
    obtain ⟨css, hr, _⟩ := hu
    rcases hr.2 with ⟨rfl, _⟩ | ⟨g, cap, cur, rfl, _, hg', _⟩
    · cases he
    · have : g = b := by simpa [Value.ownBlock] using he
      subst this
      rw [hc] at hg'
      cases hg'
  have hb2 : ∃ es c, w2.heap[b]? = some (.map es c) := by
    obtain ⟨es, c, hc, _⟩ := h1.ex
    have hne : v.ownBlock ≠ some b := by rw [← hv]; exact hmap (h3 k) ⟨es, c, hc⟩
    exact ⟨es, c, ((hg.block b (Nat.lt_of_lt_of_le h1.lt hb1.size) (fun e => hne e.symm)).trans (hb1.block b h1.lt)).trans hc⟩
  have hkeep : ∀ {u : Value} {xs : List Int}, OwnL tInt w2 base u xs → OwnL tInt w3 base u xs := by
    intro u xs hu
    have hne := hmap hu hb2
    have hlt := hu.lt
    obtain ⟨css, ⟨hr1, hr2⟩, hr3, hr4, hr5⟩ := hu
    refine ⟨css, ⟨hr1, ?_⟩, hr3, hr4, fun i c y hi hy => hr5 i c y hi hy⟩
    rcases hr2 with ⟨rfl, h0⟩ | ⟨g, cap, cur, rfl, hbb, hc, rest⟩
    · exact .inl ⟨rfl, h0⟩
    · exact .inr ⟨g, cap, cur, rfl, hbb, ((hob.grown.block g (blk_lt hc) (fun e => hne (by simpa [Value.ownBlock] using e))).trans hc), rest⟩
  have hnew : ∀ j, (look (ins vs k v') j).getD nilS = if j = k then v' else (look vs j).getD nilS := by
    intro j
    rw [look_ins]
    split <;> rfl
  refine ⟨ins vs k v', hm, ?_, fun j => ?_, fun j j' hjj => ?_⟩
  · rw [ins_keys, h2]
    rfl
  · rw [hnew j]
    by_cases hj : j = k
    · rw [if_pos hj, if_pos hj]
      exact hkeep ho
    · rw [if_neg hj, if_neg hj]
      refine hkeep ?_
      have hne := h4 j k hj
      rw [hv] at hne
      have hown := (h3 j).below hb1
      have hlt := hown.lt
      obtain ⟨css, ⟨hr1, hr2⟩, hr3, hr4, hr5⟩ := hown
      refine ⟨css, ⟨hr1, ?_⟩, hr3, hr4, fun i c y hi hy => hr5 i c y hi hy⟩
      rcases hr2 with ⟨hn, h0⟩ | ⟨g, cap, cur, hg0, hbb, hc, rest⟩
      · exact .inl ⟨hn, h0⟩
      · refine .inr ⟨g, cap, cur, hg0, hbb, ((hg.block g (blk_lt hc) (fun e => ?_)).trans hc), rest⟩
        rcases hne with hne | hne
        · rw [hg0] at hne
          simp [Value.ownBlock] at hne
        · refine hne ?_
          rw [hg0]
          simpa [Value.ownBlock] using e
  · rw [hnew j, hnew j']
    have hfresh : ∀ i, i ≠ k → ((look vs i).getD nilS).ownBlock = none ∨ ((look vs i).getD nilS).ownBlock ≠ v'.ownBlock := by
      intro i hi
      rcases hat with e | e
      · rw [e, ← hv]
        exact h4 i k hi
      · right
        rw [e]
        intro he
        have := ((h3 i).lt _ he).2
        have := hb1.size
        omega
    by_cases hj : j = k
    · rw [if_pos hj]
      have hj' : ¬ j' = k := fun e => hjj (hj.trans e.symm)
      rw [if_neg hj']
      rcases hfresh j' hj' with e | e
      · rw [e]
        cases hh : v'.ownBlock with
        | none => exact .inl rfl
        | some g => exact .inr (by simp)
      · exact .inr (fun x => e x.symm)
    · rw [if_neg hj]
      by_cases hj' : j' = k
      · rw [if_pos hj']
        exact hfresh j hj
      · rw [if_neg hj']
        exact h4 j j' hjj

def keysOf (l : List (Int × Int)) : List Int := l.foldl (fun ks x => addKey ks x.1) []
def grpOf (l : List (Int × Int)) (k : Int) : List Int := (l.filter (fun x => x.1 == k)).map (·.2)
theorem keysOf_snoc (l : List (Int × Int)) (x : Int × Int) : keysOf (l ++ [x]) = addKey (keysOf l) x.1 := by
  unfold keysOf
  rw [List.foldl_append]
  rfl
theorem grpOf_snoc (l : List (Int × Int)) (x : Int × Int) : grpOf (l ++ [x]) = fun j => if j = x.1 then grpOf l x.1 ++ [x.2] else grpOf l j := by
  funext j
  unfold grpOf
  rw [List.filter_append, List.map_append]
  by_cases h : j = x.1
  · subst h; simp
  · have : ¬ x.1 = j := fun e => h e.symm
    simp [h, this]
theorem addKey_len (ks : List Int) (k : Int) : (addKey ks k).length ≤ ks.length + 1 := by
  unfold addKey
  split <;> simp
theorem keysOf_len (l : List (Int × Int)) : (keysOf l).length ≤ l.length := by
  have : ∀ (l : List (Int × Int)) (ks : List Int), (l.foldl (fun ks x => addKey ks x.1) ks).length ≤ ks.length + l.length := by
    intro l
    induction l with
    | nil => intro ks; simp
    | cons x r ih =>
      intro ks
      rw [List.foldl_cons]
      have h1 := ih (addKey ks x.1)
      have h2 := addKey_len ks x.1
      simp only [List.length_cons]
      omega
  have h := this l []
  simpa [keysOf] using h
theorem grpOf_len (l : List (Int × Int)) (k : Int) : (grpOf l k).length ≤ l.length := by
  unfold grpOf
  rw [List.length_map]
  exact List.length_filter_le _ _
def plusK (l : List (Int × Int)) (k : Int) : List (Int × Int) := if (addM (grpOf l k)).1 == 0 then [] else [(k, (addM (grpOf l k)).1)]
def plusT (l : List (Int × Int)) : List (Int × Int) × Int := if (srt (keysOf l)).all (fun k => (addM (grpOf l k)).2 == 0) then ((srt (keysOf l)).flatMap (plusK l), 0) else ([], 2)
theorem addM_err (l : List Int) : (addM l).2 = 0 ∨ (addM l).2 = 2 := by
  unfold addM fitS
  split
  · split
    · exact .inl rfl
    · exact .inr rfl
  · exact .inr rfl
theorem addM_wf (l : List Int) : I64 (addM l).1 := by
  unfold addM fitS
  split
  · split
    · rename_i h
      simp only [fitsB, Bool.and_eq_true, decide_eq_true_eq] at h
      unfold I64 Lit.wf
      simp [IntKind.min, IntKind.max, IntKind.bits, IntKind.signed]
      omega
    · decide
  · decide
theorem plusK_len (l : List (Int × Int)) (k : Int) : (plusK l k).length ≤ 1 := by
  unfold plusK
  split <;> simp

theorem pre_at {w : World} {F G : Nat → Prop} {a b : Option Addr} {ca cb g : Nat} {x y : List (Int × Int)} (hx : Sl tBal w F a x) (hy : Sl tBal w G b y) (n : Nat) (hn : n < 2) :
    ∃ (z : List (Int × Int)) (za : Option Addr) (zc : Nat), Sl tBal w (fun _ => True) za z ∧ #[Value.slice a x.length ca, Value.slice b y.length cb][n]? = some (.slice za z.length zc) ∧ ([x, y].take (n + 1)).flatten = ([x, y].take n).flatten ++ z ∧ z.length ≤ x.length + y.length := by
  match n, hn with
  | 0, _ => exact ⟨x, a, ca, Sl.mono (fun _ _ _ => trivial) hx, rfl, by simp, by omega⟩
  | 1, _ => exact ⟨y, b, cb, Sl.mono (fun _ _ _ => trivial) hy, rfl, by simp, by omega⟩

theorem Below.only {B b : Nat} {w w2 w3 : World} (h : Below B w w2) (ho : OnlyB w2 w3 b) (hb : B ≤ b) (hB : B ≤ w2.heap.size) : Below B w w3 := h.grown ho.grown hB (fun k e => by cases e; exact hb)
theorem OwnL.ne {P : Program} {e : TypeId} {α : Type} {T : Ty P e α} {w : World} {base : Nat} {v : Value} {xs : List α} (h : OwnL T w base v xs) {g t : Nat} {cs : Array Value} (hg : w.heap[g]? = some (.cells cs t (0, 0))) (ht : e ≠ t) : some g ≠ v.ownBlock := fun x => h.ownF.ne hg ht x.symm

theorem OwnL.sl {P : Program} {e : TypeId} {α : Type} {T : Ty P e α} {w : World} {base : Nat} {a : Option Addr} {n c : Nat} {xs : List α} (h : OwnL T w base (.slice a n c) xs) : Sl T w (fun _ => True) a xs := by
  obtain ⟨a', c', he, _, _, hs⟩ := h.slice
  injection he with h1 _ _
  subst h1
  exact hs
theorem madd_is (l : List Int) (a : Option Addr) (cap : Nat) (w : World) {F : Nat → Prop} (hs : Sl tInt w F a l) (hl : l.length ≤ 100000) {s er : Int} (h : addM l = (s, er)) :
    Calls Tryz.prog 49 #[.slice a l.length cap] w fun e w' => e = .returned (.tuple #[.int .i64 s, .int .i64 er]) ∧ Below w.heap.size w w' := by
  have := madd_any l a cap w hs hl
  rw [h] at this
  exact this
theorem own_map {P : Program} {e t : TypeId} {α κ ν : Type} {T : Ty P e α} {M : MK P t κ} {ev : ν → Value} {w : World} {base b : Nat} {v : Value} {xs : List α} {l : List (κ × ν)} (h : OwnL T w base v xs) (hm : MapIs M ev w b l) : some b ≠ v.ownBlock := by
  obtain ⟨es, c, hc, _⟩ := hm.ex
  obtain ⟨css, hr, _⟩ := h
  intro he
  rcases hr.2 with ⟨rfl, _⟩ | ⟨g, cap, cur, rfl, _, hg', _⟩
  · cases he
  · have : b = g := by simpa [Value.ownBlock] using he
    subst this
    rw [hc] at hg'
    cases hg'
theorem pre_len (x y : List (Int × Int)) (n : Nat) : ([x, y].take n).flatten.length ≤ x.length + y.length := by
  match n with
  | 0 => simp
  | 1 => simp
  | n + 2 => simp

def PlusPost (w : World) (r : List (Int × Int) × Int) (e : Ending) (w' : World) : Prop := ∃ v, e = .returned (.tuple #[v, .int .i64 r.2]) ∧ OwnL tBal w' w.heap.size v r.1 ∧ Below w.heap.size w w'

end Go.Proofs.YtfnmlpnncjhnmaaGreat
