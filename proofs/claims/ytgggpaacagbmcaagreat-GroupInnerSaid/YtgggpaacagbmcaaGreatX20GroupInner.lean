/- trial.Plus: lists of balances together. -/
import Derived.Test.YtgggpaacagbmcaaGreatX15GroupInner
import Derived.Test.YtgggpaacagbmcaaGreatX19GroupInner
set_option linter.unusedVariables false
set_option linter.unusedSimpArgs false
namespace Go.Proofs.YtgggpaacagbmcaaGreat
open Go.RowKit Go.Maps Go.Sort Go.Shelf

abbrev nilS : Value := .slice none 0 0
/-- block b is a map of lists of whole numbers, each of the call's own -/
structure Grp (w : World) (b base : Nat) (keys : List Int) (grp : Int → List Int) : Prop where
  ex : ∃ vs : List (Int × Value), MapIs mInt (fun v : Value => v) w b vs ∧ vs.map (·.1) = keys ∧ (∀ k, OwnL tInt w base ((look vs k).getD nilS) (grp k)) ∧
    (∀ k k', k ≠ k' → ((look vs k).getD nilS).ownBlock = none ∨ ((look vs k).getD nilS).ownBlock ≠ ((look vs k').getD nilS).ownBlock)
theorem Grp.below {w w' : World} {b base : Nat} {keys : List Int} {grp : Int → List Int} (h : Grp w b base keys grp) (hb : Below w.heap.size w w') : Grp w' b base keys grp := by
  obtain ⟨vs, h1, h2, h3, h4⟩ := h.ex
  exact ⟨vs, h1.keep (hb.block b h1.lt), h2, fun k => (h3 k).below hb, h4⟩
theorem Grp.lt {w : World} {b base : Nat} {keys : List Int} {grp : Int → List Int} (h : Grp w b base keys grp) : b < w.heap.size := by
  obtain ⟨vs, h1, _⟩ := h.ex
  exact h1.lt
theorem Grp.new (w : World) (base : Nat) : Grp (w.alloc (.map #[] 0)) w.heap.size base [] (fun _ => []) :=
  ⟨[], MapIs.new _ _ w, rfl, fun k => OwnL.nil _ _, fun k k' h => .inl rfl⟩
theorem Grp.oks {w : World} {b base : Nat} {keys : List Int} {grp : Int → List Int} (h : Grp w b base keys grp) : ∀ k ∈ keys, I64 k := by
  obtain ⟨vs, h1, h2, _⟩ := h.ex
  intro k hk
  rw [← h2] at hk
  obtain ⟨x, hx, rfl⟩ := List.mem_map.1 hk
  exact h1.oks x hx
theorem zeroIL (w : World) : (zeroValue 94).run Tryz.prog w = .ok nilS w := by kernel_rfl

/-- what a look-up tells, and the list behind it -/
theorem Grp.looks {w : World} {b base : Nat} {keys : List Int} {grp : Int → List Int} (h : Grp w b base keys grp) {k : Int} (hk : I64 k) :
    ∃ a cap, OwnL tInt w base (.slice a (grp k).length cap) (grp k) ∧ (∀ W : World, W.heap = w.heap → (Instr.lookup 244 (.map (some b)) (.int .i64 k) false).run Tryz.prog W = .ok (.slice a (grp k).length cap) W) := by
  obtain ⟨vs, h1, h2, h3, h4⟩ := h.ex
  obtain ⟨a, cap, hv, _⟩ := (h3 k).slice
  refine ⟨a, cap, hv ▸ h3 k, fun W hW => ?_⟩
  have := (h1.keep (w' := W) (by rw [hW])).lookup Tryz.underlying244 (k := k) hk (zeroIL W)
  rw [show mInt.ek k = .int .i64 k from rfl] at this
  rw [this, ← hv]
  cases look vs k <;> rfl

def addKey (ks : List Int) (k : Int) : List Int := if k ∈ ks then ks else ks ++ [k]
/-- one more number under a key -/
theorem Grp.step {w : World} {b base : Nat} {keys : List Int} {grp : Int → List Int} {vs : List (Int × Value)} (h1 : MapIs mInt (fun v : Value => v) w b vs) (h2 : vs.map (·.1) = keys) (h3 : ∀ k, OwnL tInt w base ((look vs k).getD nilS) (grp k))
    (h4 : ∀ k k', k ≠ k' → ((look vs k).getD nilS).ownBlock = none ∨ ((look vs k).getD nilS).ownBlock ≠ ((look vs k').getD nilS).ownBlock) {k : Int} {v v' : Value} {x : Int} {w1 w2 w3 : World} (hv : (look vs k).getD nilS = v)
    (hb1 : Below w.heap.size w w1) (hg : w1.grownBy w2 v.ownBlock) (ho : OwnL tInt w2 base v' (grp k ++ [x])) (hat : v'.ownBlock = v.ownBlock ∨ v'.ownBlock = some w1.heap.size) (hm : MapIs mInt (fun v : Value => v) w3 b (ins vs k v')) (hob : OnlyB w2 w3 b) :
    Grp w3 b base (addKey keys k) (fun j => if j = k then grp k ++ [x] else grp j) := by
  have hmap : ∀ {W : World} {u : Value} {xs : List Int}, OwnL tInt W base u xs → (∃ es c, W.heap[b]? = some (.map es c)) → u.ownBlock ≠ some b := by
    intro W u xs hu ⟨es, c, hc⟩ he
    obtain ⟨css, hr, _⟩ := hu
    rcases hr.2 with ⟨rfl, _⟩ | ⟨g, cap, cur, rfl, _, hg', _⟩
    · cases he
    · have : g = b := by simpa [Value.ownBlock] using he
      subst this
      rw [hc] at hg'
      cases hg'
  have hb2 : ∃ es c, w2.heap[b]? = some (.map es c) := by
    obtain ⟨es, c, hc, _⟩ := h1.ex
    have hne : v.ownBlock ≠ some b := by rw [← hv]; exact hmap (h3 k) ⟨es, c, hc⟩
    exact ⟨es, c, ((hg.block b (Nat.lt_of_lt_of_le h1.lt hb1.size) (fun e => hne e.symm)).trans (hb1.block b h1.lt)).trans hc⟩
  have hkeep : ∀ {u : Value} {xs : List Int}, OwnL tInt w2 base u xs → OwnL tInt w3 base u xs := by
    intro u xs hu
    have hne := hmap hu hb2
    have hlt := hu.lt
    obtain ⟨css, ⟨hr1, hr2⟩, hr3, hr4, hr5⟩ := hu
    refine ⟨css, ⟨hr1, ?_⟩, hr3, hr4, fun i c y hi hy => hr5 i c y hi hy⟩
    rcases hr2 with ⟨rfl, h0⟩ | ⟨g, cap, cur, rfl, hbb, hc, rest⟩
    · exact .inl ⟨rfl, h0⟩
    · exact .inr ⟨g, cap, cur, rfl, hbb, ((hob.grown.block g (blk_lt hc) (fun e => hne (by simpa [Value.ownBlock] using e))).trans hc), rest⟩
  have hnew : ∀ j, (look (ins vs k v') j).getD nilS = if j = k then v' else (look vs j).getD nilS := by
    intro j
    rw [look_ins]
    split <;> rfl
  refine ⟨ins vs k v', hm, ?_, fun j => ?_, fun j j' hjj => ?_⟩
  · rw [ins_keys, h2]
    rfl
  · rw [hnew j]
    by_cases hj : j = k
    · rw [if_pos hj, if_pos hj]
      exact hkeep ho
    · rw [if_neg hj, if_neg hj]
      refine hkeep ?_
      have hne := h4 j k hj
      rw [hv] at hne
      have hown := (h3 j).below hb1
      have hlt := hown.lt
      obtain ⟨css, ⟨hr1, hr2⟩, hr3, hr4, hr5⟩ := hown
      refine ⟨css, ⟨hr1, ?_⟩, hr3, hr4, fun i c y hi hy => hr5 i c y hi hy⟩
      rcases hr2 with ⟨hn, h0⟩ | ⟨g, cap, cur, hg0, hbb, hc, rest⟩
      · exact .inl ⟨hn, h0⟩
      · refine .inr ⟨g, cap, cur, hg0, hbb, ((hg.block g (blk_lt hc) (fun e => ?_)).trans hc), rest⟩
        rcases hne with hne | hne
        · rw [hg0] at hne
          simp [Value.ownBlock] at hne
        · refine hne ?_
          rw [hg0]
          simpa [Value.ownBlock] using e
  · rw [hnew j, hnew j']
    have hfresh : ∀ i, i ≠ k → ((look vs i).getD nilS).ownBlock = none ∨ ((look vs i).getD nilS).ownBlock ≠ v'.ownBlock := by
      intro i hi
      rcases hat with e | e
      · rw [e, ← hv]
        exact h4 i k hi
      · right
        rw [e]
        intro he
        have := ((h3 i).lt _ he).2
        have := hb1.size
        omega
    by_cases hj : j = k
    · rw [if_pos hj]
      have hj' : ¬ j' = k := fun e => hjj (hj.trans e.symm)
      rw [if_neg hj']
      rcases hfresh j' hj' with e | e
      · rw [e]
        cases hh : v'.ownBlock with
        | none => exact .inl rfl
        | some g => exact .inr (by simp)
      · exact .inr (fun x => e x.symm)
    · rw [if_neg hj]
      by_cases hj' : j' = k
      · rw [if_pos hj']
        exact hfresh j hj
      · rw [if_neg hj']
        exact h4 j j' hjj

def keysOf (l : List (Int × Int)) : List Int := l.foldl (fun ks x => addKey ks x.1) []
def grpOf (l : List (Int × Int)) (k : Int) : List Int := (l.filter (fun x => x.1 == k)).map (·.2)
theorem keysOf_snoc (l : List (Int × Int)) (x : Int × Int) : keysOf (l ++ [x]) = addKey (keysOf l) x.1 := by
  unfold keysOf
  rw [List.foldl_append]
  rfl
theorem grpOf_snoc (l : List (Int × Int)) (x : Int × Int) : grpOf (l ++ [x]) = fun j => if j = x.1 then grpOf l x.1 ++ [x.2] else grpOf l j := by
  funext j
  unfold grpOf
  rw [List.filter_append, List.map_append]
  by_cases h : j = x.1
  · subst h; simp
  · have : ¬ x.1 = j := fun e => h e.symm
    simp [h, this]
theorem addKey_len (ks : List Int) (k : Int) : (addKey ks k).length ≤ ks.length + 1 := by
  unfold addKey
  split <;> simp
theorem keysOf_len (l : List (Int × Int)) : (keysOf l).length ≤ l.length := by
  have : ∀ (l : List (Int × Int)) (ks : List Int), (l.foldl (fun ks x => addKey ks x.1) ks).length ≤ ks.length + l.length := by
    intro l
    induction l with
    | nil => intro ks; simp
    | cons x r ih =>
      intro ks
      rw [List.foldl_cons]
      have h1 := ih (addKey ks x.1)
      have h2 := addKey_len ks x.1
      simp only [List.length_cons]
      omega
  have h := this l []
  simpa [keysOf] using h
theorem grpOf_len (l : List (Int × Int)) (k : Int) : (grpOf l k).length ≤ l.length := by
  unfold grpOf
  rw [List.length_map]
  exact List.length_filter_le _ _
def plusK (l : List (Int × Int)) (k : Int) : List (Int × Int) := if (addM (grpOf l k)).1 == 0 then [] else [(k, (addM (grpOf l k)).1)]
def plusT (l : List (Int × Int)) : List (Int × Int) × Int := if (srt (keysOf l)).all (fun k => (addM (grpOf l k)).2 == 0) then ((srt (keysOf l)).flatMap (plusK l), 0) else ([], 2)
theorem addM_err (l : List Int) : (addM l).2 = 0 ∨ (addM l).2 = 2 := by
  unfold addM fitS
  split
  · split
    · exact .inl rfl
    · exact .inr rfl
  · exact .inr rfl
theorem addM_wf (l : List Int) : I64 (addM l).1 := by
  unfold addM fitS
  split
  · split
    · rename_i h
      simp only [fitsB, Bool.and_eq_true, decide_eq_true_eq] at h
      unfold I64 Lit.wf
      simp [IntKind.min, IntKind.max, IntKind.bits, IntKind.signed]
      omega
    · decide
  · decide
theorem plusK_len (l : List (Int × Int)) (k : Int) : (plusK l k).length ≤ 1 := by
  unfold plusK
  split <;> simp

set_option maxRecDepth 100000 in
set_option maxHeartbeats 2000000 in
theorem keys1G (n : Nat) (hn : 1 ≤ n) (l Bm b : Nat) (lst : List (Int × Value)) (J : List Int → World → Prop)
    (hY : ∀ pre x W, J pre W → pre.length < lst.length → YieldAt Fence.wide (n - 1) Tryz.prog l #[encZ x] W fun e W' => e = .returned (.bool true) ∧ J (pre ++ [x]) W' ∧ KeepsWalks W W')
    (W : World) (hJ : AbidesFrom W.heap.size J) (hm : W.cell? ⟨Bm, 0, none⟩ = some (.map (some b))) (hM : MapIs mInt (fun v : Value => v) W b lst) (h0 : J [] W) :
    CallsIn Fence.wide n Tryz.prog 186 #[.func (.yield l) #[] #[], .pointer (some ⟨Bm, 0, none⟩)] W fun e W' => (∃ v, e = .returned v) ∧ ∃ ss : List Int, ss.Perm (lst.map (·.1)) ∧ J ss W' := by
  refine callsIn_of_wp Tryz.func186 rfl trivial ?_ rfl
  simp only [Tryz.ntmps186, List.size_toArray, List.length_cons, List.length_nil, Nat.reduceAdd, Nat.reduceSub, Array.replicate_succ, Array.replicate_zero, List.push_toArray, List.append_toArray, List.nil_append, List.cons_append]
  gi_wp2_with (first
    | (gi_at_range; refine wpIn_range rfl _ 244 rfl 94 Tryz.underlying244 b lst rfl hM ?_; intro w0 hrg0 hg0 hs0)
    | gi_in)
  go_frame
  gi_loopw [3] (fun _ wr => ∃ (ss : List Int), Rng mInt (fun v : Value => v) wr b W.heap.size lst ss ∧ J ss wr)
    (fun _ wr => wr.rangeLeft b W.heap.size)
  case atStart =>
    exact ⟨[], hrg0, hJ [] W w0 none h0 hg0 (fun r e => by cases e)⟩
  case round =>
    obtain ⟨ss, hrg, hJs⟩ := hrel
    gi_wp2_with (first
      | (gi_at_next; refine wpIn_next rfl _ rfl b W.heap.size lst ss rfl hrg ?_ ?_)
      | gi_in)
    · intro hp
      gi_wp2
      go_end0
      exact ⟨⟨_, rfl⟩, ss, hp, hJs⟩
    · intro kx v w2 hkv hrg2 hlt hg2 hs2 hen
      have hek : mInt.ek kx = .int .i64 kx := rfl
      rw [hek] at hen ⊢
      have hlen := hrg2.len
      have hJ2 : J ss w2 := hJ ss wr w2 (some W.heap.size) hJs hg2 (fun r e => by cases e; exact ⟨Nat.le_refl _, hrg.iter_walk⟩)
      obtain ⟨fn, tmps, assign, body, hy, hR⟩ := hY ss kx _ hJ2 (by simp at hlen; omega)
      clear hs2
      gi_wp2
      refine hR.mono ?_
      rintro e W3 ⟨rfl, hJ4, hk4⟩
      have hrg4 := hrg2.of_walks hk4
      gi_wp2
      go_roundw
      case rel => exact ⟨ss ++ [kx], hrg4, hJ4⟩
      case measure =>
        have e1 := rangeLeft_walks hk4 hrg2
        rw [e1]
        exact hlt
theorem keysfG (mb : Option Nat) (w : World) :
    Calls Tryz.prog 164 #[.map mb] w fun e w' => e = .returned (.func (.func 186) #[] #[.pointer (some ⟨w.heap.size, 0, none⟩)]) ∧ w' = w.alloc (.cells #[.map mb] 244) := by
  go_enter Tryz.func164, Tryz.ntmps164
  go_wp2_with fail
  go_ret
  exact ⟨rfl, rfl⟩
theorem givesG (n : Nat) (hn : 1 ≤ n) (Bm b : Nat) (lst : List (Int × Value)) (w : World) (hBm : Bm < w.heap.size) (hm : w.cell? ⟨Bm, 0, none⟩ = some (.map (some b))) (hM : MapIs mInt (fun v : Value => v) w b lst) :
    SeqGives Fence.wide n Tryz.prog 186 #[.pointer (some ⟨Bm, 0, none⟩)] encZ (fun ss => ss.Perm (lst.map (·.1))) lst.length w := fun l J W hW hJ hY h0 =>
  keys1G n hn l Bm b lst J hY W hJ ((hW.cell (p := ⟨Bm, 0, none⟩) hBm).trans hm) (hM.keep (hW.block b hM.lt)) h0
theorem sortedG (Bm b : Nat) (lst : List (Int × Value)) (w : World) (hBm : Bm < w.heap.size) (hm : w.cell? ⟨Bm, 0, none⟩ = some (.map (some b))) (hM : MapIs mInt (fun v : Value => v) w b lst) (hl : lst.length ≤ 1000000) :
    Calls Tryz.prog 133 #[.func (.func 186) #[] #[.pointer (some ⟨Bm, 0, none⟩)]] w (SrtPost w (lst.map (·.1))) :=
  sorted_is 186 #[.pointer (some ⟨Bm, 0, none⟩)] (enters_of Tryz.func186 (by kernel_rfl) rfl) (lst.map (·.1)) (fun k hk => by obtain ⟨x, hx, rfl⟩ := List.mem_map.1 hk; exact hM.oks x hx) (by rw [List.length_map]; exact hl) w (by rw [List.length_map]; exact givesG 2 (by omega) Bm b lst w hBm hm hM)

theorem pre_at {w : World} {F G : Nat → Prop} {a b : Option Addr} {ca cb g : Nat} {x y : List (Int × Int)} (hx : Sl tBal w F a x) (hy : Sl tBal w G b y) (n : Nat) (hn : n < 2) :
    ∃ (z : List (Int × Int)) (za : Option Addr) (zc : Nat), Sl tBal w (fun _ => True) za z ∧ #[Value.slice a x.length ca, Value.slice b y.length cb][n]? = some (.slice za z.length zc) ∧ ([x, y].take (n + 1)).flatten = ([x, y].take n).flatten ++ z ∧ z.length ≤ x.length + y.length := by
  match n, hn with
  | 0, _ => exact ⟨x, a, ca, Sl.mono (fun _ _ _ => trivial) hx, rfl, by simp, by omega⟩
  | 1, _ => exact ⟨y, b, cb, Sl.mono (fun _ _ _ => trivial) hy, rfl, by simp, by omega⟩

theorem Below.only {B b : Nat} {w w2 w3 : World} (h : Below B w w2) (ho : OnlyB w2 w3 b) (hb : B ≤ b) (hB : B ≤ w2.heap.size) : Below B w w3 := h.grown ho.grown hB (fun k e => by cases e; exact hb)
theorem OwnL.ne {P : Program} {e : TypeId} {α : Type} {T : Ty P e α} {w : World} {base : Nat} {v : Value} {xs : List α} (h : OwnL T w base v xs) {g t : Nat} {cs : Array Value} (hg : w.heap[g]? = some (.cells cs t (0, 0))) (ht : e ≠ t) : some g ≠ v.ownBlock := fun x => h.ownF.ne hg ht x.symm

theorem OwnL.sl {P : Program} {e : TypeId} {α : Type} {T : Ty P e α} {w : World} {base : Nat} {a : Option Addr} {n c : Nat} {xs : List α} (h : OwnL T w base (.slice a n c) xs) : Sl T w (fun _ => True) a xs := by
  obtain ⟨a', c', he, _, _, hs⟩ := h.slice
  injection he with h1 _ _
  subst h1
  exact hs
theorem madd_is (l : List Int) (a : Option Addr) (cap : Nat) (w : World) {F : Nat → Prop} (hs : Sl tInt w F a l) (hl : l.length ≤ 100000) {s er : Int} (h : addM l = (s, er)) :
    Calls Tryz.prog 97 #[.slice a l.length cap] w fun e w' => e = .returned (.tuple #[.int .i64 s, .int .i64 er]) ∧ Below w.heap.size w w' := by
  have := madd_any l a cap w hs hl
  rw [h] at this
  exact this
theorem lookIL {w : World} {b : Nat} {vs : List (Int × Value)} (h1 : MapIs mInt (fun v : Value => v) w b vs) {k : Int} (hk : I64 k) {u : Value} (hu : (look vs k).getD nilS = u) (W : World) (hW : W.heap[b]? = w.heap[b]?) :
    (Instr.lookup 244 (.map (some b)) (.int .i64 k) false).run Tryz.prog W = .ok u W := by
  have := (h1.keep (w' := W) hW).lookup Tryz.underlying244 (k := k) hk (zeroIL W)
  rw [show mInt.ek k = .int .i64 k from rfl] at this
  rw [this, ← hu]
  cases look vs k <;> rfl
theorem own_map {P : Program} {e t : TypeId} {α κ ν : Type} {T : Ty P e α} {M : MK P t κ} {ev : ν → Value} {w : World} {base b : Nat} {v : Value} {xs : List α} {l : List (κ × ν)} (h : OwnL T w base v xs) (hm : MapIs M ev w b l) : some b ≠ v.ownBlock := by
  obtain ⟨es, c, hc, _⟩ := hm.ex
  obtain ⟨css, hr, _⟩ := h
  intro he
  rcases hr.2 with ⟨rfl, _⟩ | ⟨g, cap, cur, rfl, _, hg', _⟩
  · cases he
  · have : b = g := by simpa [Value.ownBlock] using he
    subst this
    rw [hc] at hg'
    cases hg'
theorem pre_len (x y : List (Int × Int)) (n : Nat) : ([x, y].take n).flatten.length ≤ x.length + y.length := by
  match n with
  | 0 => simp
  | 1 => simp
  | n + 2 => simp

def PlusPost (w : World) (r : List (Int × Int) × Int) (e : Ending) (w' : World) : Prop := ∃ v, e = .returned (.tuple #[v, .int .i64 r.2]) ∧ OwnL tBal w' w.heap.size v r.1 ∧ Below w.heap.size w w'

set_option maxHeartbeats 16000000 in
set_option maxRecDepth 100000 in
theorem plus_any (x y : List (Int × Int)) (a b : Option Addr) (ca cb : Nat) (w : World) {F G : Nat → Prop} (hs : Sl tBal w F a x) (ht : Sl tBal w G b y) (hl : x.length + y.length ≤ 100000) :
    Calls Tryz.prog 143 #[.slice a x.length ca, .slice b y.length cb] w (PlusPost w (plusT (x ++ y))) := by
  have HS := Lib.hid hs
  have HT := Lib.hid ht
  clear hs ht
  have HB := Lib.hid (((Below.refl w.heap.size w).alloc (Nat.le_refl _) (.map #[] 0)).alloc (by simp) (.cells #[.slice a x.length ca, .slice b y.length cb] 49))
  have HG : Hid (Grp ((w.alloc (.map #[] 0)).alloc (.cells #[.slice a x.length ca, .slice b y.length cb] 49)) w.heap.size w.heap.size (keysOf ([x, y].take 0).flatten) (grpOf ([x, y].take 0).flatten)) :=
    Lib.hid ((Grp.new w w.heap.size).below ((Below.refl _ _).alloc (Nat.le_refl _) _))
  have HZ := Lib.hid (by have := blk_new (w.alloc (.map #[] 0)) (.cells #[.slice a x.length ca, .slice b y.length cb] 49); simpa using this : ((w.alloc (.map #[] 0)).alloc (.cells #[.slice a x.length ca, .slice b y.length cb] 49)).heap[w.heap.size + 1]? = some (.cells #[.slice a x.length ca, .slice b y.length cb] 49 (0, 0)))
  obtain ⟨i0, hi, hz0, hz1, hz2⟩ := info_parts infoInt
  obtain ⟨j0, hj, hy0, hy1, hy2⟩ := info_parts infoBal
  have hmm := @run_makeMap Tryz.prog
  go_enter Tryz.func143, Tryz.ntmps143
  go_wp2_with fail
  clear hmm
  go_loopw [21] (fun vi wr => ∃ n : Nat, n ≤ 2 ∧ vi = .int .i64 n ∧ Grp wr w.heap.size w.heap.size (keysOf ([x, y].take n).flatten) (grpOf ([x, y].take n).flatten) ∧ Below w.heap.size w wr ∧ wr.heap[w.heap.size + 1]? = some (.cells #[.slice a x.length ca, .slice b y.length cb] 49 (0, 0))) (fun vi _ => 2 - (Go.RowKit.intOf vi).toNat)
  case atStart => exact ⟨0, by omega, rfl, HG.out, HB.out, HZ.out⟩
  case round =>
    obtain ⟨n, hn, rfl, hg, hb, hz⟩ := hrel
    have HGR := Lib.hid hg
    have HBR := Lib.hid hb
    have HZR := Lib.hid hz
    clear hg hb HG HB HZ
    by_cases hlt : n < 2
    · obtain ⟨z, za, zc, hzs, hze, hpre, hzl⟩ := pre_at (ca := ca) (cb := cb) (g := 0) HS.out HT.out n hlt
      have hcell : wr.cell? ⟨w.heap.size + 1, n, none⟩ = some (.slice za z.length zc) := (blk_cells hz n).trans hze
      have HZS := Lib.hid hzs
      have HPRE := Lib.hid hpre
      generalize hP : ([x, y].take n).flatten = P at *
      have hz' : z.length ≤ 9223372036854775807 := by omega
      have hd2 : decide ((n : Int) < 2) = true := by simp; omega
      clear hz hzs hze hpre
      go_wp2_with fail
      go_loopw [27] (fun vk wi => ∃ m : Nat, m ≤ z.length ∧ vk = .int .i64 m ∧ Grp wi w.heap.size w.heap.size (keysOf (P ++ z.take m)) (grpOf (P ++ z.take m)) ∧ Below w.heap.size w wi ∧ wi.heap[w.heap.size + 1]? = some (.cells #[.slice a x.length ca, .slice b y.length cb] 49 (0, 0))) (fun vk _ => z.length - (Go.RowKit.intOf vk).toNat)
      case atStart => exact ⟨0, Nat.zero_le _, rfl, by simpa using HGR.out, HBR.out, HZR.out⟩
      case round =>
        obtain ⟨m, hm, rfl, hg, hb, hz⟩ := hrel
        have HGI := Lib.hid hg
        have HBI := Lib.hid hb
        have HZI := Lib.hid hz
        clear hg hb hz hcell
        by_cases hlm : m < z.length
        · obtain ⟨ad, rfl, _, hadl, hc0, hc1, g0, g1⟩ := bal_at (Sl.keep (fun k hk _ => HBI.out.block k hk) HZS.out) m hlm
          have HTK : Hid (z.take (m + 1) = z.take m ++ [z[m]]) := Lib.hid (List.take_succ_eq_append_getElem hlm)
          have hql : (P ++ z.take m).length ≤ 300000 := by rw [List.length_append, List.length_take, ← hP]; have := pre_len x y n; omega
          generalize z[m] = u at *
          obtain ⟨k, v⟩ := u
          simp only at hc0 hc1 g0 g1
          have HK := Lib.hid g0
          have HVW := Lib.hid g1
          clear g0 g1
          have HN1 : Hid (keysOf (P ++ z.take (m + 1)) = addKey (keysOf (P ++ z.take m)) k) := Lib.hid (by rw [HTK.out, ← List.append_assoc, keysOf_snoc])
          have HN2 : Hid (grpOf (P ++ z.take (m + 1)) = fun j => if j = k then grpOf (P ++ z.take m) k ++ [v] else grpOf (P ++ z.take m) j) := Lib.hid (by rw [HTK.out, ← List.append_assoc, grpOf_snoc])
          have hgl := grpOf_len (P ++ z.take m) k
          generalize hQ : P ++ z.take m = Q at *
          go_wp2_with fail
          refine abs_world (S := fun wx => wx.heap[wr.heap.size]? = some (.cells #[.int .i64 k, .int .i64 v] 62 (0, 0)) ∧ Grp wx w.heap.size w.heap.size (keysOf Q) (grpOf Q) ∧ Below w.heap.size w wx ∧ wx.heap[w.heap.size + 1]? = some (.cells #[.slice a x.length ca, .slice b y.length cb] 49 (0, 0))) ?_
            ⟨blk_new wr _, HGI.out.below ((Below.refl _ _).alloc (Nat.le_refl _) _), HBI.out.alloc HBI.out.size _, blk_alloc HZI.out _⟩
          clear hc0 hc1 hadl
          rintro wx ⟨hx, hgp, hbx, hzx⟩
          obtain ⟨vs, m1, m2, m3, m4⟩ := hgp.ex
          obtain ⟨a0, c0, hv, _⟩ := (m3 k).slice
          have HX := Lib.hid hx
          have HBX := Lib.hid hbx
          have HZX := Lib.hid hzx
          have HM1 := Lib.hid m1
          have HV := Lib.hid hv
          have H3 := Lib.hid (And.intro m2 (And.intro m3 m4))
          have hlt0 := blk_lt hx
          have hblt := m1.lt
          have hcx := blk_cells hx
          have hl1 := lookIL m1 HK.out hv wx.drew rfl
          have hl2 := lookIL m1 HK.out hv (wx.drew.alloc (.cells #[.int .i64 v] 3)) (Below.heap_alloc wx.drew _ _ hblt)
          have hl3 := lookIL m1 HK.out hv (wx.alloc (.cells #[.int .i64 v] 3)).drew (Below.heap_alloc wx _ _ hblt)
          have hown0 : OwnL tInt wx w.heap.size (.slice a0 (grpOf Q k).length c0) (grpOf Q k) := hv ▸ m3 k
          have HB1 : Hid (Below wx.heap.size wx (wx.drew.alloc (.cells #[.int .i64 v] 3))) := Lib.hid ((Below.drew (Below.refl _ _)).alloc (Nat.le_refl _) _)
          have HOA := Lib.hid (hown0.below HB1.out)
          have HSL : Hid (Sl tInt (wx.drew.alloc (.cells #[.int .i64 v] 3)) (fun kk => some kk ≠ (Value.slice a0 (grpOf Q k).length c0).ownBlock ∧ kk < (wx.drew.alloc (.cells #[.int .i64 v] 3)).heap.size) (some ⟨wx.heap.size, 0, none⟩) [v]) :=
            Lib.hid (sl_oneI (blk_new wx.drew _) ⟨fun e => by have := (hown0.lt _ e.symm).2; omega, by simp⟩ HVW.out)
          have h63 : (grpOf Q k).length + [v].length ≤ maxLen := by simp only [List.length_cons, List.length_nil]; unfold maxLen; omega
          have hby : ((grpOf Q k).length + [v].length) * 8 ≤ 140737488355328 := by simp only [List.length_cons, List.length_nil]; omega
          have hbase : w.heap.size ≤ (wx.drew.alloc (.cells #[.int .i64 v] 3)).heap.size := by have := HBX.out.size; simp; omega
          have hX1 := (HB1.out.block wr.heap.size hlt0).trans HX.out
          have HX1 := Lib.hid hX1
          have HM1B := Lib.hid (HM1.out.keep (HB1.out.block w.heap.size hblt))
          have HNE1 := Lib.hid (HOA.out.ne HX1.out (by decide))
          clear hx hgp hbx hzx m1 m2 m3 m4 hv hown0 hX1
          go_region_law (first
            | (refine step_app (T := tInt) rfl (.tmp 37) (.tmp 40) 94 rfl i0 (.int .i64 0) 8 Tryz.underlying94 hi hz0 hz1 hz2 rfl (by decide) int_one w.heap.size (.slice a0 (grpOf Q k).length c0) (grpOf Q k) (by simp [Act.eval, Act.put]) HOA.out ⟨wx.heap.size, 0, none⟩ 1 [v] (by simp [Act.eval, Act.put]) HSL.out h63 hby hbase ?_; intro v2 w2 hown hg hat; obtain ⟨a2, c2, rfl, _⟩ := hown.slice; have HO2 := Lib.hid hown; have HG2 := Lib.hid hg; have HAT2 := Lib.hid hat; have HX2 := Lib.hid ((hg.block wr.heap.size (blk_lt HX1.out) HNE1.out).trans HX1.out); have HM2 := Lib.hid (HM1B.out.keep (hg.block w.heap.size HM1B.out.lt (own_map HOA.out HM1B.out))); clear hown hg hat; have hcx2 := blk_cells HX2.out; obtain ⟨w3, hrun3, hm3, ho3⟩ := HM2.out.update Tryz.underlying244 HK.out (.slice a2 (grpOf Q k ++ [v]).length c2); simp only [List.length_append, List.length_cons, List.length_nil, Nat.zero_add, mInt] at hrun3))
          all_goals
            have HG3 := Lib.hid (Grp.step HM1.out H3.out.1 H3.out.2.1 H3.out.2.2 HV.out HB1.out HG2.out HO2.out HAT2.out hm3 ho3)
            have HB3 := Lib.hid (Below.only (Below.grown (belows_then HBX.out HBX.out.size HB1.out) HG2.out hbase (fun k e => (HOA.out.lt k e).1)) ho3 (Nat.le_refl _) (Nat.le_trans hbase HG2.out.size))
            have HZ3 := Lib.hid ((ho3.heap (by omega : w.heap.size + 1 ≠ w.heap.size)).trans ((HG2.out.block (w.heap.size + 1) (Nat.lt_of_lt_of_le (blk_lt HZX.out) HB1.out.size) (HOA.out.ne ((HB1.out.block _ (blk_lt HZX.out)).trans HZX.out) (by decide))).trans ((HB1.out.block _ (blk_lt HZX.out)).trans HZX.out)))
            clear hm3 ho3 hrun3 hcx2 hl1 hl2 hl3 hcx HO2 HG2 HAT2 HX2 HM2
            go_wp2_with fail
            go_roundw
            case rel => exact ⟨m + 1, by omega, by go_num, by rw [HN1.out, HN2.out]; exact HG3.out, HB3.out, HZ3.out⟩
            case measure => simp [Go.RowKit.intOf]; omega
        · have HLZ : Hid (P ++ z.take m = ([x, y].take (n + 1)).flatten) := Lib.hid (by rw [HPRE.out, take_all hm hlm])
          go_wp2_with fail
          go_roundw
          case rel => exact ⟨n + 1, by omega, by go_num, by rw [← HLZ.out]; exact HGI.out, HBI.out, HZI.out⟩
          case measure => simp [Go.RowKit.intOf]; omega
    · have HPP : Hid (([x, y].take n).flatten = x ++ y) := Lib.hid (by
        have : n = 2 := by omega
        subst this
        simp)
      have hgr := HGR.out
      rw [HPP.out] at hgr
      have hxl : (x ++ y).length ≤ 100000 := by rw [List.length_append]; exact hl
      generalize hL : x ++ y = L at *
      generalize hres : plusT L = res
      have HRES := Lib.hid hres
      obtain ⟨vs, m1, m2, m3, m4⟩ := hgr.ex
      have HGF := Lib.hid hgr
      have hkl := keysOf_len L
      have hvl : vs.length ≤ 1000000 := by have := congrArg List.length m2; rw [List.length_map] at this; omega
      have HC := Lib.hid (sortedG wr.heap.size w.heap.size vs (wr.alloc (.cells #[.map (some w.heap.size)] 244)) (by simp) (by rw [blk_cells (blk_new wr (.cells #[.map (some w.heap.size)] 244)) 0]; rfl) (m1.keep (Below.heap_alloc wr _ _ m1.lt)) hvl)
      have HM2 := Lib.hid m2
      clear m1 m2 m3 m4 hgr hz hres
      go_wp2_with fail
      refine (keysfG (some w.heap.size) wr).mono ?_
      rintro en w1 ⟨rfl, rfl⟩
      go_wp2_with fail
      refine HC.out.mono ?_
      rintro en w2 ⟨v, rfl, ho, hb⟩
      rw [HM2.out] at ho
      have hb2 := belows_then ((Below.refl wr.heap.size wr).alloc (Nat.le_refl _) (.cells #[.map (some w.heap.size)] 244)) (by simp) hb
      have HG2 := Lib.hid (HGF.out.below hb2)
      have HB2 := Lib.hid (belows_then HBR.out HBR.out.size hb2)
      have hksl : (srt (keysOf L)).length ≤ 100000 := by rw [srt_len]; omega
      have HKW : Hid (∀ k ∈ srt (keysOf L), I64 k) := Lib.hid (fun k hk => HGF.out.oks k (srt_mem.1 hk))
      obtain ⟨ka, kc, rfl, _, _, hks⟩ := ho.slice
      have HPL : Hid (res = if (srt (keysOf L)).all (fun k => (addM (grpOf L k)).2 == 0) then ((srt (keysOf L)).flatMap (plusK L), 0) else ([], 2)) := Lib.hid (by rw [← HRES.out]; rfl)
      generalize hke : srt (keysOf L) = ks at *
      have HKS := Lib.hid hks
      clear ho hb hb2 hks HC HM2 hke
      go_wp2_with fail
      go_loopw [11, 48] (fun vo vi wr => ∃ (n : Nat) (vx : Value), vx = vo ∧ n ≤ ks.length ∧ vi = .int .i64 n ∧ OwnL tBal wr w2.heap.size vx ((ks.take n).flatMap (plusK L)) ∧ Below w2.heap.size w2 wr ∧ Hid ((ks.take n).all (fun k => (addM (grpOf L k)).2 == 0) = true)) (fun _ vi _ => ks.length - (Go.RowKit.intOf vi).toNat)
      case atStart => exact ⟨0, _, rfl, Nat.zero_le _, rfl, OwnL.nil _ _, Below.refl _ _, Lib.hid rfl⟩
      case round =>
        obtain ⟨i, vo, rfl, hi', rfl, ho, hb, hok⟩ := hrel
        have HO := Lib.hid ho
        have HB5 := Lib.hid hb
        have HG5 := Lib.hid (HG2.out.below hb)
        clear ho hb
        by_cases hik : i < ks.length
        · obtain ⟨ad, rfl, hadl, hc0⟩ := int_at (Sl.keep (fun k hk _ => HB5.out.block k hk) HKS.out) i hik
          have HKI := Lib.hid (HKW.out ks[i] (List.getElem_mem hik))
          have HSF := Lib.hid (flat_succ (plusK L) ks i hik)
          have HSA := Lib.hid (all_take_succ (fun k => (addM (grpOf L k)).2 == 0) ks i hik)
          have HANY : Hid (((addM (grpOf L ks[i])).2 == 0) = false → ks.all (fun k => (addM (grpOf L k)).2 == 0) = false) := Lib.hid (fun h => by rw [List.all_eq_false]; exact ⟨ks[i], List.getElem_mem hik, by simp [h]⟩)
          generalize hk : ks[i] = k at *
          obtain ⟨ga, gc, hgo, hlk⟩ := HG5.out.looks HKI.out
          have hl1 := hlk wr rfl
          have HGS := Lib.hid hgo.sl
          have hglen : (grpOf L k).length ≤ 100000 := Nat.le_trans (grpOf_len L k) hxl
          obtain ⟨s, er, hadd⟩ : ∃ s er, addM (grpOf L k) = (s, er) := ⟨_, _, rfl⟩
          have herr := addM_err (grpOf L k)
          have hwf := addM_wf (grpOf L k)
          rw [hadd] at herr hwf HANY
          simp only at herr hwf HANY
          have HWF := Lib.hid hwf
          have HADD := Lib.hid hadd
          have hnum : ((ks.take i).flatMap (plusK L)).length ≤ 100000 := by
            have := flat_len1 _ (plusK_len L) (ks.take i)
            rw [List.length_take] at this
            omega
          have HPK : Hid (plusK L k = if s == 0 then [] else [(k, s)]) := Lib.hid (by unfold plusK; rw [hadd])
          have HSA2 : Hid ((ks.take (i + 1)).all (fun k => (addM (grpOf L k)).2 == 0) = ((ks.take i).all (fun k => (addM (grpOf L k)).2 == 0) && (er == 0))) := Lib.hid (by rw [HSA.out, hadd])
          clear hlk hgo hk hadd hwf
          go_wp2_with fail
          refine (madd_is (grpOf L k) ga gc _ HGS.out hglen HADD.out).mono ?_
          rintro en w6 ⟨rfl, hb⟩
          have HB6 := Lib.hid (belows_then HB5.out HB5.out.size hb)
          have HO6 := Lib.hid (HO.out.below hb)
          clear hb hc0 hl1 hadl
          rcases herr with rfl | rfl
          · have HN1 : Hid ((ks.take (i + 1)).all (fun k => (addM (grpOf L k)).2 == 0) = true) := Lib.hid (by rw [HSA2.out, hok.out]; rfl)
            cases hs0 : s == 0
            · have hs1 : (s != 0) = true := by simpa using hs0
              have HN2 : Hid ((ks.take (i + 1)).flatMap (plusK L) = (ks.take i).flatMap (plusK L) ++ [(k, s)]) := Lib.hid (by rw [HSF.out, HPK.out, if_neg (by simpa using hs0)])
              have HO7 := Lib.hid (HO6.out.alloc (.cells #[.int .i64 k, .int .i64 s] 62))
              have HB7 := Lib.hid (HB6.out.alloc HB6.out.size (.cells #[.int .i64 k, .int .i64 s] 62))
              have HSL : Hid (Sl tBal (w6.alloc (.cells #[.int .i64 k, .int .i64 s] 62)) (fun kk => some kk ≠ vo.ownBlock ∧ kk < (w6.alloc (.cells #[.int .i64 k, .int .i64 s] 62)).heap.size) (some ⟨w6.heap.size, 0, none⟩) [(k, s)]) :=
                Lib.hid (sl_one2 tBal (x := (k, s)) rfl (blk_new w6 _) ⟨fun e => by have := (HO6.out.lt _ e.symm).2; omega, by simp⟩ (bal_mk (k, s) HKI.out HWF.out))
              have h63 : ((ks.take i).flatMap (plusK L)).length + [((k, s) : Int × Int)].length ≤ maxLen := by simp only [List.length_cons, List.length_nil]; unfold maxLen; omega
              have hby : (((ks.take i).flatMap (plusK L)).length + [((k, s) : Int × Int)].length) * 16 ≤ 140737488355328 := by simp only [List.length_cons, List.length_nil]; omega
              clear hs0
              go_wp2_with (at_builtin; refine wp_app (T := tBal) rfl _ _ 49 rfl j0 (.agg #[.int .i64 0, .int .i64 0]) 16 Tryz.underlying49 hj hy0 hy1 hy2 rfl (by decide) bal_one w2.heap.size vo ((ks.take i).flatMap (plusK L)) rfl HO7.out ⟨w6.heap.size, 0, none⟩ 1 [(k, s)] rfl HSL.out h63 hby HB7.out.size ?_; intro v8 w8 hown hg hnil hat; have HO8 := Lib.hid hown; have HB8 := Lib.hid (Below.grown HB7.out hg HB7.out.size (fun k e => (HO7.out.lt k e).1)); clear hown hg hnil hat)
              go_roundw
              case rel => exact ⟨i + 1, _, rfl, by omega, by go_num, by rw [HN2.out]; exact HO8.out, HB8.out, HN1⟩
              case measure => simp [Go.RowKit.intOf]; omega
            · have hs1 : (s != 0) = false := by simpa using hs0
              have HN2 : Hid ((ks.take (i + 1)).flatMap (plusK L) = (ks.take i).flatMap (plusK L)) := Lib.hid (by rw [HSF.out, HPK.out, if_pos (by simpa using hs0)]; simp)
              clear hs0
              go_wp2_with fail
              go_roundw
              case rel => exact ⟨i + 1, _, rfl, by omega, by go_num, by rw [HN2.out]; exact HO6.out, HB6.out, HN1⟩
              case measure => simp [Go.RowKit.intOf]; omega
          · have HRF : Hid (res = ([], 2)) := Lib.hid (by rw [HPL.out, HANY.out rfl]; rfl)
            go_wp2_with fail
            go_ret2
            rw [HRES.out, HRF.out]
            exact ⟨_, rfl, OwnL.nil _ _, belows_then HB2.out HB2.out.size HB6.out⟩
        · have HLK : Hid (ks.take i = ks) := Lib.hid (take_all hi' hik)
          have HRT : Hid (res = (ks.flatMap (plusK L), 0)) := Lib.hid (by rw [HPL.out]; have := hok.out; rw [HLK.out] at this; rw [this]; rfl)
          go_wp2_with fail
          go_ret2
          rw [HRES.out, HRT.out]
          exact ⟨vo, rfl, by have := HO.out.mono HB2.out.size; rwa [HLK.out] at this, belows_then HB2.out HB2.out.size HB5.out⟩
end Go.Proofs.YtgggpaacagbmcaaGreat
