/- Lists that are kept: several lists of a call's own, apart from each other; append that tells what becomes of the old row. -/
import Derived.Test.YtfnmlpnncjhnmaaGreatX39SheetMoves
import Derived.Test.YtfnmlpnncjhnmaaGreatX20SheetMoves
import Derived.Deep.RegionHeld3
set_option linter.unusedVariables false
set_option linter.unusedSimpArgs false
namespace Go.Proofs.YtfnmlpnncjhnmaaGreat
open Go.RowKit Go.Maps Go.Deep

section
variable {P : Program} {e : TypeId} {α : Type} {T : Ty P e α}

/-- append: either in the old row, or all that was there stays -/
theorem run_appK (w : World) (base : Nat) (t ty e : TypeId) (i : TypeInfo) (z : Value) (size bytes : Nat) (ht : P.underlying t = some (.slice e)) (hi : P.info? e = some i) (hz : i.zero = some z)
    (hsize : i.size = size) (hby : i.bytes = bytes) (hzs : z.cells.size = size) (hsz : 0 < size)
    (v : Value) (n : Nat) (xs : List Value) (hown : w.ownsRow base e size v n xs)
    (a : Addr) (m c : Nat) (news : List Value) (hl : news.length = m * size) (hnews : ∀ j u, news[j]? = some u → w.cell? (a.add j) = some u) (h1 : ∀ u ∈ news, u.oneCell' = true)
    (h63 : n + m ≤ maxLen) (hbytes : (n + m) * bytes ≤ 140737488355328) (hbase : base ≤ w.heap.size) :
    ∃ v' w', (Builtin.append_ #[t, t] ty #[v, .slice (some a) m c]).run P w = .ok v' w' ∧ w'.ownsRow base e size v' (n + m) (xs ++ news) ∧ w.grownBy w' v.ownBlock ∧
      (v'.ownBlock = v.ownBlock ∨ v'.ownBlock = some w.heap.size ∧ ∀ k, k < w.heap.size → w'.heap[k]? = w.heap[k]?) := by
  obtain ⟨v', w', hr, h2, h3, h4, h5⟩ := run_append_own_at (P := P) w base t ty e i z size bytes ht hi hz hsize hby hzs hsz v n xs hown a m c news hl hnews h1 h63 hbytes hbase
  refine ⟨v', w', hr, h2, h3, ?_⟩
  rcases hown.2 with ⟨rfl, rfl⟩ | ⟨g, cap, cur, rfl, hbg, hg, hnc, hcm, hcs, htake⟩
  · rcases h5 with h5 | h5
    · exact .inl h5
    · exact .inr ⟨h5, fun k hk => h3.block k hk (by simp [Value.ownBlock])⟩
  · subst hsize
    subst hby
    by_cases hroom : n + m ≤ cap
    · have hfit : n * i.size + news.length ≤ cur.size := by rw [hl, hcs, ← Nat.add_mul]; exact Nat.mul_le_mul_right _ hroom
      have hr' := run_append_room (P := P) w t ty e i ht hi g n cap cur hg a m c news hl hnews h1 hroom hfit
      rw [hr] at hr'
      injection hr' with hv hw
      subst hv
      exact .inl rfl
    · have holds : ∀ j u, xs[j]? = some u → w.cell? ((⟨g, 0, none⟩ : Addr).add j) = some u := hown.cells (g := g) rfl
      have hsmall : n + m ≤ 9223372036854775807 := by simp only [maxLen] at h63; omega
      have hr' := run_append_grow (P := P) w t ty e i z ht hi hz ⟨g, 0, none⟩ n cap xs hown.1 holds a m c news hl hnews (by omega) (by omega) (growslice_fits (by omega) hbytes)
      rw [hr] at hr'
      injection hr' with hv hw
      subst hv
      subst hw
      exact .inr ⟨rfl, fun k hk => Below.heap_alloc w.drew _ k hk⟩

variable {ops : Array Oper} {rest : List Oper} {o : Oper} {a : Act} {Q : Exit → Act → World → Prop} {w : World}
theorem wp_appK (hgd : o.guard = none) (s x : Operand) (t : TypeId) (ho : o.op = .call { callee := .builtin .append, args := #[s, x], argTypes := #[t, t] })
    (i : TypeInfo) (z : Value) (bytes : Nat) (ht : P.underlying t = some (.slice e)) (hi : P.info? e = some i) (hz : i.zero = some z) (hsize : i.size = T.n) (hby : i.bytes = bytes) (hzs : z.cells.size = T.n) (hsz : 0 < T.n)
    (h1c : ∀ (w : World) (F : Nat → Prop) (c : List Value) (x : α), T.R w F c x → ∀ u ∈ c, u.oneCell' = true)
    (base : Nat) (v : Value) (xs : List α) (hs : a.eval s = v) (hown : OwnL T w base v xs) (ad : Addr) (c : Nat) (ys : List α) (hx : a.eval x = .slice (some ad) ys.length c)
    (hys : Sl T w (fun k => some k ≠ v.ownBlock ∧ k < w.heap.size) (some ad) ys) (h63 : xs.length + ys.length ≤ maxLen) (hbytes : (xs.length + ys.length) * bytes ≤ 140737488355328) (hbase : base ≤ w.heap.size)
    (h : ∀ v' w', OwnL T w' base v' (xs ++ ys) → w.grownBy w' v.ownBlock → (v'.ownBlock = v.ownBlock ∨ v'.ownBlock = some w.heap.size ∧ ∀ k, k < w.heap.size → w'.heap[k]? = w.heap[k]?) → wpList P ops Q rest (a.put o.dst v') w') :
    wpList P ops Q (o :: rest) a w := by
  obtain ⟨css, h1, h2, h3, h4⟩ := hown
  obtain ⟨news, n2, n4, n3, n5⟩ := hys.rows
  refine wpList_plain hgd fun K hK => ?_
  obtain ⟨v', w', hr, g2, g3, g5⟩ := run_appK (P := P) w base t o.type e i z T.n bytes ht hi hz hsize hby hzs hsz v xs.length css.flatten h1 ad ys.length c news.flatten (by rw [flat_len n3, n2]) n5 (by
    intro u hu
    obtain ⟨c', hc', hu'⟩ := List.mem_flatten.1 hu
    obtain ⟨k, hk, rfl⟩ := List.mem_iff_getElem.1 hc'
    exact h1c w _ _ _ (n4 k _ _ (List.getElem?_eq_getElem hk) (List.getElem?_eq_getElem (by omega))) u hu') h63 hbytes hbase
  unfold Oper.wp
  simp only [execOp, ho, resolve, invoke, builtin, Sem.run_bind, Sem.run_pure, Result.andThen_ok, List.map_toArray, List.map_cons, List.map_nil, hs, hx, hr]
  exact hK _ _ (h v' w' (OwnL.app h2 h3 h4 n2 n3 n4 g2 g3 (g5.imp id (·.1))) g3 g5)

/-- elements that hold nothing of memory -/
def Free (T : Ty P e α) : Prop := ∀ (w w' : World) (F G : Nat → Prop) (c : List Value) (x : α), T.R w F c x → T.R w' G c x

theorem OwnL.keepF {w w' : World} {base : Nat} {v : Value} {xs : List α} (hfr : Free T) (h : OwnL T w base v xs) (hb : ∀ k, v.ownBlock = some k → w'.heap[k]? = w.heap[k]?) : OwnL T w' base v xs := by
  obtain ⟨css, ⟨hr1, hr2⟩, hr3, hr4, hr5⟩ := h
  refine ⟨css, ⟨hr1, ?_⟩, hr3, hr4, fun i c y hi hy => hfr _ _ _ _ _ _ (hr5 i c y hi hy)⟩
  rcases hr2 with ⟨hn, h0⟩ | ⟨g, cap, cur, hg0, hbb, hc, rest⟩
  · exact .inl ⟨hn, h0⟩
  · exact .inr ⟨g, cap, cur, hg0, hbb, (hb g (by rw [hg0]; rfl)).trans hc, rest⟩
theorem OwnL.far {w w' : World} {base : Nat} {v u : Value} {xs : List α} (hfr : Free T) (h : OwnL T w base v xs) (hg : w.grownBy w' u.ownBlock) (hne : ApartV v u) : OwnL T w' base v xs := by
  have hlt := h.lt
  refine h.keepF hfr (fun k hk => hg.block k (hlt k hk).2 (fun e => ?_))
  rcases hne with hne | hne
  · rw [hne] at hk; cases hk
  · exact hne (by rw [hk, e])
theorem OwnL.but {w w' : World} {base : Nat} {v : Value} {xs : List α} {F : Nat → Prop} (hfr : Free T) (h : OwnL T w base v xs) (hb : But F w w') (hne : ∀ k, v.ownBlock = some k → ¬ F k) : OwnL T w' base v xs := by
  have hlt := h.lt
  exact h.keepF hfr (fun k hk => hb.block k (hlt k hk).2 (hne k hk))
theorem ApartV.stepF {w : World} {base : Nat} {u v v' : Value} {xs : List α} (h : ApartV u v) (ho : OwnL T w base u xs) (hat : v'.ownBlock = v.ownBlock ∨ v'.ownBlock = some w.heap.size) : ApartV u v' := by
  rcases hat with e | e
  · unfold ApartV
    rw [e]
    exact h
  · right
    rw [e]
    intro he
    have := (ho.lt _ he).2
    omega
theorem Sl.free {w w' : World} {F G : Nat → Prop} {a : Option Addr} {xs : List α} (hfr : Free T) (h : Sl T w F a xs) (hb : ∀ ad, a = some ad → G ad.block ∧ ad.block < w'.heap.size ∧ w'.heap[ad.block]? = w.heap[ad.block]?) : Sl T w' G a xs := by
  intro i x hx
  obtain ⟨ad, ces, rfl, _, _, hc, hr⟩ := h i x hx
  obtain ⟨h1, h2, h3⟩ := hb ad rfl
  refine ⟨ad, ces, rfl, h1, h2, fun j u hu => ?_, hfr _ _ _ _ _ _ hr⟩
  rw [← hc j u hu]
  exact World.cell?_of_block (w := w) (by rw [add_block, add_block]; exact h3)

/-- what lies in a row, be it the one that append turns, stays -/
theorem Sl.appK {w w' : World} {base : Nat} {v v' : Value} {xs ys zs r : List α} {a : Option Addr} (hfr : Free T) (ho : OwnL T w base v xs) (ho' : OwnL T w' base v' (xs ++ ys)) (hg : w.grownBy w' v.ownBlock)
    (hk : v'.ownBlock = v.ownBlock ∨ v'.ownBlock = some w.heap.size ∧ ∀ k, k < w.heap.size → w'.heap[k]? = w.heap[k]?) (hs : Sl T w (fun _ => True) a zs) (ha : ∀ ad, a = some ad → some ad.block = v.ownBlock → ad = ⟨ad.block, 0, none⟩) (hz : xs = zs ++ r) : Sl T w' (fun _ => True) a zs := by
  by_cases hsame : ∃ ad, a = some ad ∧ some ad.block = v.ownBlock ∧ v'.ownBlock = v.ownBlock
  · obtain ⟨ad, rfl, hb, hv⟩ := hsame
    have had := ha ad rfl hb
    rw [hz] at ho'
    rcases ho'.form with ⟨rfl, _⟩ | ⟨g, cap, rfl, _, _⟩
    · rw [← hb] at hv; cases hv
    · rw [← hb] at hv
      have hv' : g = ad.block := by simpa [Value.ownBlock] using hv
      subst hv'
      rw [had]
      exact (Sl.left (Sl.left ho'.sl))
  · intro i x hx
    obtain ⟨ad, ces, rfl, _, hlt, hc, hr⟩ := hs i x hx
    have hbl : w'.heap[ad.block]? = w.heap[ad.block]? := by
      rcases hk with hk | ⟨_, hk⟩
      · exact hg.block _ hlt (fun e => hsame ⟨ad, rfl, e, hk⟩)
      · exact hk _ hlt
    refine ⟨ad, ces, rfl, trivial, Nat.lt_of_lt_of_le hlt hg.size, fun j u hu => ?_, hfr _ _ _ _ _ _ hr⟩
    rw [← hc j u hu]
    exact World.cell?_of_block (w := w) (by rw [add_block, add_block]; exact hbl)

variable (T) in
/-- several lists of the call's own, apart from each other -/
structure Lots (w : World) (base : Nat) (vs : List Value) (L : List (List α)) : Prop where
  len : vs.length = L.length
  own : ∀ (i : Nat) (v : Value) (l : List α), vs[i]? = some v → L[i]? = some l → OwnL T w base v l
  apart : ∀ (i j : Nat) (u v : Value), i ≠ j → vs[i]? = some u → vs[j]? = some v → ApartV u v
variable {base : Nat} {vs : List Value} {L : List (List α)}
theorem Lots.nil (w : World) (base : Nat) : Lots T w base [] [] := ⟨rfl, by simp, by simp⟩
theorem Lots.lt (h : Lots T w base vs L) {v : Value} (hv : v ∈ vs) : ∀ k, v.ownBlock = some k → base ≤ k ∧ k < w.heap.size := by
  obtain ⟨i, hi, rfl⟩ := List.mem_iff_getElem.1 hv
  exact (h.own i _ _ (List.getElem?_eq_getElem hi) (List.getElem?_eq_getElem (by rw [← h.len]; exact hi))).lt
theorem Lots.keep {w' : World} (h : Lots T w base vs L) (hs : w.heap.size ≤ w'.heap.size) (hb : ∀ k, k < w.heap.size → w'.heap[k]? = w.heap[k]?) : Lots T w' base vs L :=
  ⟨h.len, fun i v l hv hl => (h.own i v l hv hl).keep hs hb, h.apart⟩
theorem Lots.below {w' : World} (h : Lots T w base vs L) (hb : Below w.heap.size w w') : Lots T w' base vs L := h.keep hb.size hb.block
theorem Lots.but {w' : World} {F : Nat → Prop} (hfr : Free T) (h : Lots T w base vs L) (hb : But F w w') (hne : ∀ v ∈ vs, ∀ k, v.ownBlock = some k → ¬ F k) : Lots T w' base vs L :=
  ⟨h.len, fun i v l hv hl => (h.own i v l hv hl).but hfr hb (hne v (List.mem_of_getElem? hv)), h.apart⟩
theorem Lots.mono {base' : Nat} (h : Lots T w base vs L) (hb : base' ≤ base) : Lots T w base' vs L := ⟨h.len, fun i v l hv hl => (h.own i v l hv hl).mono hb, h.apart⟩
/-- one more list, apart from all that are there -/
theorem Lots.snoc {v : Value} {l : List α} (h : Lots T w base vs L) (ho : OwnL T w base v l) (ha : ∀ u ∈ vs, ApartV u v) : Lots T w base (vs ++ [v]) (L ++ [l]) := by
  have hlen := h.len
  refine ⟨by simp [hlen], fun i u m hu hm => ?_, fun i j u x hij hu hx => ?_⟩
  · by_cases hlt : i < vs.length
    · rw [List.getElem?_append_left hlt] at hu
      rw [List.getElem?_append_left (by omega)] at hm
      exact h.own i u m hu hm
    · rw [List.getElem?_append_right (by omega)] at hu
      rw [List.getElem?_append_right (by omega)] at hm
      have h0 : i - vs.length = 0 := by
        have := (List.getElem?_eq_some_iff.1 hu).1
        simp at this
        omega
      rw [h0] at hu
      rw [← hlen, h0] at hm
      simp at hu hm
      subst hu
      subst hm
      exact ho
  · have hi := (List.getElem?_eq_some_iff.1 hu).1
    have hj := (List.getElem?_eq_some_iff.1 hx).1
    simp at hi hj
    by_cases h1 : i < vs.length
    · rw [List.getElem?_append_left h1] at hu
      by_cases h2 : j < vs.length
      · rw [List.getElem?_append_left h2] at hx
        exact h.apart i j u x hij hu hx
      · rw [List.getElem?_append_right (by omega)] at hx
        have h0 : j - vs.length = 0 := by omega
        rw [h0] at hx
        simp at hx
        subst hx
        exact ha u (List.mem_of_getElem? hu)
    · rw [List.getElem?_append_right (by omega)] at hu
      have h0 : i - vs.length = 0 := by omega
      rw [h0] at hu
      simp at hu
      subst hu
      rw [List.getElem?_append_left (by omega)] at hx
      exact (ha x (List.mem_of_getElem? hx)).symm
/-- one of them turns, within its row or into a new block -/
theorem Lots.set {w' : World} {i : Nat} {v v' : Value} {l' : List α} (hfr : Free T) (h : Lots T w base vs L) (hv : vs[i]? = some v) (ho : OwnL T w' base v' l') (hg : w.grownBy w' v.ownBlock) (hat : v'.ownBlock = v.ownBlock ∨ v'.ownBlock = some w.heap.size) :
    Lots T w' base (vs.set i v') (L.set i l') := by
  have hil := (List.getElem?_eq_some_iff.1 hv).1
  have hlen := h.len
  have step : ∀ (j : Nat) (u : Value), j ≠ i → vs[j]? = some u → ApartV u v' := fun j u hj hu => by
    have hjl := (List.getElem?_eq_some_iff.1 hu).1
    exact (h.apart j i u v hj hu hv).stepF (h.own j u _ hu (List.getElem?_eq_getElem (by omega))) hat
  refine ⟨by simp [hlen], fun j u m hu hm => ?_, fun j k u x hjk hu hx => ?_⟩
  · by_cases hji : j = i
    · subst hji
      rw [List.getElem?_set_self (by omega)] at hu hm
      injection hu with hu
      injection hm with hm
      subst hu
      subst hm
      exact ho
    · rw [List.getElem?_set_ne (Ne.symm hji)] at hu hm
      exact (h.own j u m hu hm).far hfr hg (h.apart j i u v hji hu hv)
  · by_cases hji : j = i
    · subst hji
      rw [List.getElem?_set_self (by omega)] at hu
      rw [List.getElem?_set_ne hjk] at hx
      injection hu with hu
      subst hu
      exact (step k x (Ne.symm hjk) hx).symm
    · rw [List.getElem?_set_ne (Ne.symm hji)] at hu
      by_cases hki : k = i
      · subst hki
        rw [List.getElem?_set_self (by omega)] at hx
        injection hx with hx
        subst hx
        exact step j u hji hu
      · rw [List.getElem?_set_ne (Ne.symm hki)] at hx
        exact h.apart j k u x hjk hu hx
end

/-- a slice, whatever it holds -/
def Ty.val {P : Program} {t e : TypeId} (h : P.underlying t = some (.slice e)) (hn : P.cellsOf t = 1) : Ty P t Value where
  n := 1
  R := fun _ _ cs v => cs = [v] ∧ ∃ a n c, v = .slice a n c
  hn := hn
  len := by rintro _ _ _ _ ⟨rfl, _⟩; rfl
  keep := fun _ h => h
  mono := fun _ h => h
  of := by
    intro H enc w fuel cs d ps h1 _
    rcases open_slice h h1 with ⟨rfl, _⟩ | ⟨a, len, cap, m, n, D, Pl, rfl, _⟩
    · exact ⟨_, rfl, _, _, _, rfl⟩
    · exact ⟨_, rfl, _, _, _, rfl⟩
theorem Ty.val_free {P : Program} {t e : TypeId} (h : P.underlying t = some (.slice e)) (hn : P.cellsOf t = 1) : Free (Ty.val h hn) := fun _ _ _ _ _ _ h => h
theorem bal_Free : Free tBal := fun w w' F G c x h => by
  obtain ⟨rfl, h1, h2⟩ := bal_inv h
  exact bal_mk _ h1 h2
end Go.Proofs.YtfnmlpnncjhnmaaGreat


/- variorumbook: marks of balances; marked. -/
set_option linter.unusedVariables false
set_option linter.unusedSimpArgs false
namespace Go.Proofs.YtfnmlpnncjhnmaaGreat
open Go.RowKit Go.Maps Go.Deep

/-- the marks of list i, from one place on -/
def marks (i f n : Nat) : List (Int × Int) := (List.range n).map (fun (k : Nat) => ((-1000 * (i : Int) - ((f : Int) + (k : Int)) - 1 : Int), (0 : Int)))
theorem marks_len (i f n : Nat) : (marks i f n).length = n := by unfold marks; rw [List.length_map, List.length_range]
theorem marks_succ (i f n : Nat) : marks i f (n + 1) = marks i f n ++ [(-1000 * (i : Int) - ((f : Int) + (n : Int)) - 1, 0)] := by
  unfold marks
  rw [List.range_succ, List.map_append]
  rfl
theorem marks_app (i n : Nat) : ∀ m, marks i 0 n ++ marks i n m = marks i 0 (n + m)
  | 0 => by simp [marks]
  | m + 1 => by
    rw [marks_succ, ← List.append_assoc, marks_app i n m, ← Nat.add_assoc, marks_succ]
    congr 4
    omega

set_option maxHeartbeats 8000000 in
set_option maxRecDepth 100000 in
theorem markBal_any (i f n : Nat) (hi : i ≤ 1000) (hf : f ≤ 200000) (hn : n ≤ 200000) (w : World) :
    Calls Tryz.prog 134 #[.int .i64 (i : Int), .int .i64 (f : Int), .int .i64 (n : Int)] w fun e w' => ∃ v, e = .returned v ∧ OwnL tBal w' w.heap.size v (marks i f n) ∧ Below w.heap.size w w' := by
  obtain ⟨i0, hi0, hz0, hz1, hz2⟩ := info_parts infoBal
  have w1 : IntKind.i64.wrap (-1000 * (i : Int)) = -1000 * (i : Int) := wrap_is (by omega) (by omega)
  have w0 : IntKind.i64.wrap ((f : Int) + (n : Int)) = (f : Int) + (n : Int) := wrap_is (by omega) (by omega)
  go_enter Tryz.func134, Tryz.ntmps134
  go_wp2_with fail
  go_loopw [7, 8] (fun vo vi wr => ∃ (m : Nat) (k : Int) (vx : Value), vx = vo ∧ m ≤ n ∧ vi = .int .i64 k ∧ k = (f : Int) + (m : Int) ∧ OwnL tBal wr w.heap.size vx (marks i f m) ∧ Below w.heap.size w wr) (fun _ vi _ => f + n - (intOf vi).toNat)
  case atStart => exact ⟨0, _, _, rfl, Nat.zero_le _, rfl, by simp, OwnL.nil _ _, Below.refl _ _⟩
  case round =>
    obtain ⟨m, k, vo, rfl, hm, rfl, hk, ho, hb⟩ := hrel
    have HO := Lib.hid ho
    have HB := Lib.hid hb
    have HK := Lib.hid hk
    clear ho hb
    by_cases hlt : m < n
    · have hlt' : k < (f : Int) + (n : Int) := by omega
      have w2 : IntKind.i64.wrap (-1000 * (i : Int) - k) = -1000 * (i : Int) - k := wrap_is (by omega) (by omega)
      have w3 : IntKind.i64.wrap (-1000 * (i : Int) - k - 1) = -1000 * (i : Int) - k - 1 := wrap_is (by omega) (by omega)
      have w4 : IntKind.i64.wrap (k + 1) = k + 1 := wrap_is (by omega) (by omega)
      have HX : Hid (I64 (-1000 * (i : Int) - k - 1)) := Lib.hid (i64_ofB (by omega) (by omega))
      have HMS : Hid (marks i f m ++ [(-1000 * (i : Int) - k - 1, 0)] = marks i f (m + 1)) := Lib.hid (by rw [marks_succ, hk])
      have HOA := Lib.hid (HO.out.alloc (.cells #[.int .i64 (-1000 * (i : Int) - k - 1), .int .i64 0] 94))
      have HBA := Lib.hid (HB.out.alloc HB.out.size (.cells #[.int .i64 (-1000 * (i : Int) - k - 1), .int .i64 0] 94))
      have HSL : Hid (Sl tBal (wr.alloc (.cells #[.int .i64 (-1000 * (i : Int) - k - 1), .int .i64 0] 94)) (fun kk => some kk ≠ vo.ownBlock ∧ kk < (wr.alloc (.cells #[.int .i64 (-1000 * (i : Int) - k - 1), .int .i64 0] 94)).heap.size) (some ⟨wr.heap.size, 0, none⟩) [(-1000 * (i : Int) - k - 1, 0)]) :=
        Lib.hid (sl_one2 tBal (x := (-1000 * (i : Int) - k - 1, 0)) rfl (blk_new wr _) ⟨fun e => by have := (HO.out.lt _ e.symm).2; omega, by simp⟩ (bal_mk (-1000 * (i : Int) - k - 1, 0) HX.out (show I64 0 by decide)))
      have hml := marks_len i f m
      have h63 : (marks i f m).length + [((-1000 * (i : Int) - k - 1, 0) : Int × Int)].length ≤ maxLen := by simp only [List.length_cons, List.length_nil]; unfold maxLen; omega
      have hby : ((marks i f m).length + [((-1000 * (i : Int) - k - 1, 0) : Int × Int)].length) * 16 ≤ 140737488355328 := by simp only [List.length_cons, List.length_nil]; omega
      clear hml hk
      go_wp2_with (at_builtin; refine wp_app (T := tBal) rfl _ _ 32 rfl i0 (.agg #[.int .i64 0, .int .i64 0]) 16 Tryz.underlying32 hi0 hz0 hz1 hz2 rfl (by decide) bal_one w.heap.size vo (marks i f m) rfl HOA.out ⟨wr.heap.size, 0, none⟩ 1 [(-1000 * (i : Int) - k - 1, 0)] rfl HSL.out h63 hby HBA.out.size ?_; intro v2 w2 hown hg hnil hat; have HB2 := Lib.hid (Below.grown HBA.out hg HBA.out.size (fun k e => (HOA.out.lt k e).1)); have HO2 := Lib.hid hown; clear hown hg hnil hat)
      go_roundw
      case rel => exact ⟨m + 1, _, _, rfl, by omega, rfl, by have := HK.out; push_cast; omega, by rw [← HMS.out]; exact HO2.out, HB2.out⟩
      case measure => have := HK.out; simp [intOf]; omega
    · obtain rfl : m = n := by omega
      have hnl : ¬ k < (f : Int) + (m : Int) := by omega
      go_wp2_with fail
      go_ret
      exact ⟨_, rfl, HO.out, HB.out⟩
end Go.Proofs.YtfnmlpnncjhnmaaGreat


/- variorumbook: markedBalances, stillBalances. -/
set_option linter.unusedVariables false
set_option linter.unusedSimpArgs false
namespace Go.Proofs.YtfnmlpnncjhnmaaGreat
open Go.RowKit Go.Maps Go.Deep

def tBalV : Ty Tryz.prog 32 Value := Ty.val Tryz.underlying32 (by kernel_rfl)
theorem balV_Free : Free tBalV := fun _ _ _ _ _ _ h => h
theorem val_at {w : World} {F : Nat → Prop} {a : Option Addr} {l : List Value} (h : Sl tBalV w F a l) (i : Nat) (hi : i < l.length) :
    ∃ ad, a = some ad ∧ ad.block < w.heap.size ∧ w.cell? (ad.add i) = some l[i] := by
  obtain ⟨ad, ces, rfl, _, hlt, hc, hr⟩ := h i l[i] (List.getElem?_eq_getElem hi)
  obtain ⟨rfl, _⟩ := hr
  have hn : tBalV.n = 1 := rfl
  rw [hn] at hc
  refine ⟨ad, rfl, hlt, ?_⟩
  have := hc 0 _ rfl
  rw [Nat.mul_one] at this
  rwa [Go.Addr.add_add, Nat.add_zero] at this

/-- the slices vs, read: what they hold -/
def Reads (w : World) (vs : List Value) (L : List (List (Int × Int))) : Prop :=
  vs.length = L.length ∧ ∀ (i : Nat) (v : Value) (l : List (Int × Int)), vs[i]? = some v → L[i]? = some l → ∃ a c, v = .slice a l.length c ∧ Sl tBal w (fun _ => True) a l
theorem Reads.keep {w w' : World} {vs : List Value} {L : List (List (Int × Int))} (h : Reads w vs L) (hb : Below w.heap.size w w') : Reads w' vs L :=
  ⟨h.1, fun i v l hv hl => by
    obtain ⟨a, c, e, hs⟩ := h.2 i v l hv hl
    exact ⟨a, c, e, hs.keep (fun k hk _ => hb.block k hk)⟩⟩
theorem Lots.reads {w : World} {base : Nat} {vs : List Value} {L : List (List (Int × Int))} (h : Lots tBal w base vs L) : Reads w vs L :=
  ⟨h.len, fun i v l hv hl => by
    obtain ⟨a, c, e, _, _, hs⟩ := (h.own i v l hv hl).slice
    exact ⟨a, c, e, hs⟩⟩

set_option maxHeartbeats 8000000 in
set_option maxRecDepth 100000 in
theorem markedBal_any {w : World} {F : Nat → Prop} {a : Option Addr} {cap : Nat} {vs : List Value} {L : List (List (Int × Int))} (hs : Sl tBalV w F a vs) (hr : Reads w vs L) (hn : vs.length ≤ 1000)
    (hL : ∀ (i : Nat) (l : List (Int × Int)), L[i]? = some l → l = marks i 0 l.length ∧ l.length ≤ 200000) :
    Calls Tryz.prog 83 #[.slice a vs.length cap] w fun e w' => e = .returned (.bool true) ∧ Below w.heap.size w w' := by
  have HS := Lib.hid hs
  have HR := Lib.hid hr
  have HL := Lib.hid hL
  clear hs hr hL
  go_enter Tryz.func83, Tryz.ntmps83
  go_wp2_with fail
  go_loopw [3] (fun vi wr => ∃ n : Nat, n ≤ vs.length ∧ vi = .int .i64 n ∧ Below w.heap.size w wr) (fun vi _ => vs.length - (intOf vi).toNat)
  case atStart => exact ⟨0, Nat.zero_le _, rfl, Below.refl _ _⟩
  case round =>
    obtain ⟨n, hnn, rfl, hb⟩ := hrel
    have HB := Lib.hid hb
    clear hb
    by_cases hlt : n < vs.length
    · have hlt2 : n < L.length := by have := HR.out.1; omega
      obtain ⟨l, hl⟩ : ∃ l, L[n]? = some l := ⟨_, List.getElem?_eq_getElem hlt2⟩
      obtain ⟨hmk, hll⟩ := HL.out n l hl
      obtain ⟨la, lc, hv, hsl⟩ := (HR.out.keep HB.out).2 n vs[n] l (List.getElem?_eq_getElem hlt) hl
      obtain ⟨ad, rfl, hadl, hc0⟩ := val_at (Sl.keep (fun k hk _ => HB.out.block k hk) HS.out) n hlt
      rw [hv] at hc0
      have HMK : Hid (Calls Tryz.prog 134 #[.int .i64 (n : Int), .int .i64 0, .int .i64 (l.length : Int)] wr.drew fun e w' => ∃ v, e = .returned v ∧ OwnL tBal w' wr.drew.heap.size v l ∧ Below wr.drew.heap.size wr.drew w') := Lib.hid (by
        have := markBal_any n 0 l.length (by omega) (by omega) hll wr.drew
        rwa [← hmk] at this)
      have hlm : l.length ≤ maxLen := by unfold maxLen; omega
      have hlm' : l.length ≤ 9223372036854775807 := by omega
      have HSB : Hid (∀ W, Below wr.heap.size wr W → ∀ (b : Option Addr) (cb : Nat), Sl tBal W (fun _ => True) b l → Calls Tryz.prog 15 #[.slice la l.length lc, .slice b l.length cb] W fun e w' => e = .returned (.bool true) ∧ Below W.heap.size W w') := Lib.hid (fun W hW b cb hsb =>
        sameBal_is l l la b lc cb W (Sl.keep (fun k hk _ => hW.block k hk) hsl) hsb hlm hlm rfl)
      have HCE : Hid (∀ W, Below wr.heap.size wr W → W.cell? (ad.add n) = some (.slice la l.length lc)) := Lib.hid (fun W hW => (hW.cell (p := ad.add n) (by rw [add_block]; exact hadl)).trans hc0)
      have HBD : Hid (Below wr.heap.size wr wr.drew) := Lib.hid (Below.drew (Below.refl _ _))
      clear hl hmk hll hv hsl hlm hadl
      go_wp2_with fail
      go_region_held3 (fun w' => w'.cell? (ad.add n) = some (.slice la l.length lc)) (first | with_reducible exact HCE.out _ HB3.out | with_reducible exact HCE.out _ HB2.out | with_reducible exact HCE.out _ HBD.out) (first | (go_at_call 134; refine HMK.out.mono ?_; rintro en w2 ⟨v2, rfl, ho, hb⟩; obtain ⟨ta, tc, rfl, _, _, hts⟩ := ho.slice; have HTS := Lib.hid hts; have HB2 : Hid (Below wr.heap.size wr w2) := Lib.hid (belows_then HBD.out HBD.out.size hb); clear ho hb hts) | (go_at_call 15; refine (HSB.out _ HB2.out ta tc HTS.out).mono ?_; rintro en w4 ⟨rfl, hb⟩; have HB3 : Hid (Below wr.heap.size wr w4) := Lib.hid (belows_then HB2.out HB2.out.size hb); clear hb))
      have HBN := Lib.hid (HB.out.trans (HB3.out.mono HB.out.size))
      go_wp2_with fail
      go_roundw
      case rel => exact ⟨n + 1, by omega, by go_num, HBN.out⟩
      case measure => simp [intOf]; omega
    · go_wp2_with fail
      go_ret
      exact ⟨rfl, HB.out⟩
end Go.Proofs.YtfnmlpnncjhnmaaGreat


/- variorumbook: stillBalances. -/
set_option linter.unusedVariables false
set_option linter.unusedSimpArgs false
namespace Go.Proofs.YtfnmlpnncjhnmaaGreat
open Go.RowKit Go.Maps Go.Deep

set_option maxHeartbeats 8000000 in
set_option maxRecDepth 100000 in
theorem stillBal_any {w : World} {b : Nat} {cs : Array Value} {F G : Nat → Prop} {a6 a7 : Option Addr} {c6 c7 : Nat} {vs us : List Value} {L : List (List (Int × Int))} (hb : w.heap[b]? = some (.cells cs 48 (0, 0)))
    (h6 : cs[6]? = some (.slice a6 vs.length c6)) (h7 : cs[7]? = some (.slice a7 us.length c7)) (hs : Sl tBalV w F a6 vs) (ht : Sl tBalV w G a7 us) (hr : Reads w vs L) (hq : Reads w us L) (hn : vs.length ≤ 1000)
    (hL : ∀ (i : Nat) (l : List (Int × Int)), L[i]? = some l → l.length ≤ maxLen) :
    Calls Tryz.prog 53 #[.pointer (some ⟨b, 0, none⟩)] w fun e w' => e = .returned (.bool true) ∧ Below w.heap.size w w' := by
  have HS := Lib.hid hs
  have HT := Lib.hid ht
  have HR := Lib.hid hr
  have HQ := Lib.hid hq
  have HL := Lib.hid hL
  have hbl := blk_lt hb
  have HC6 : Hid (∀ W, Below w.heap.size w W → W.cell? ⟨b, 6, none⟩ = some (.slice a6 vs.length c6)) := Lib.hid (fun W hW => by rw [blk_cells (blk_below hb hW)]; exact h6)
  have HC7 : Hid (∀ W, Below w.heap.size w W → W.cell? ⟨b, 7, none⟩ = some (.slice a7 us.length c7)) := Lib.hid (fun W hW => by rw [blk_cells (blk_below hb hW)]; exact h7)
  clear hs ht hr hq hL hb h6 h7
  go_enter Tryz.func53, Tryz.ntmps53
  go_wp2_with fail
  go_loopw [3] (fun vi wr => ∃ n : Nat, n ≤ vs.length ∧ vi = .int .i64 n ∧ Below w.heap.size w wr) (fun vi _ => vs.length - (intOf vi).toNat)
  case atStart => exact ⟨0, Nat.zero_le _, rfl, Below.refl _ _⟩
  case round =>
    obtain ⟨n, hnn, rfl, hb⟩ := hrel
    have HB := Lib.hid hb
    have hbl' : b < wr.heap.size := Nat.lt_of_lt_of_le hbl hb.size
    have hz6 := HC6.out wr hb
    clear hb
    by_cases hlt : n < vs.length
    · have hlt2 : n < L.length := by have := HR.out.1; omega
      have hlt3 : n < us.length := by have := HQ.out.1; omega
      obtain ⟨l, hl⟩ : ∃ l, L[n]? = some l := ⟨_, List.getElem?_eq_getElem hlt2⟩
      have hlm := HL.out n l hl
      obtain ⟨la, lc, hv, hsl⟩ := (HR.out.keep HB.out).2 n vs[n] l (List.getElem?_eq_getElem hlt) hl
      obtain ⟨ma, mc, hu, hsm⟩ := (HQ.out.keep HB.out).2 n us[n] l (List.getElem?_eq_getElem hlt3) hl
      obtain ⟨ad, rfl, hadl, hc0⟩ := val_at (Sl.keep (fun k hk _ => HB.out.block k hk) HS.out) n hlt
      obtain ⟨bd, rfl, hbdl, hd0⟩ := val_at (Sl.keep (fun k hk _ => HB.out.block k hk) HT.out) n hlt3
      rw [hv] at hc0
      rw [hu] at hd0
      have HSB : Hid (Calls Tryz.prog 15 #[.slice la l.length lc, .slice ma l.length mc] wr.drew fun e w' => e = .returned (.bool true) ∧ Below wr.drew.heap.size wr.drew w') := Lib.hid (
        sameBal_is l l la ma lc mc wr.drew (Sl.keep (w := wr) (fun k hk _ => rfl) hsl) (Sl.keep (w := wr) (fun k hk _ => rfl) hsm) hlm hlm rfl)
      have HBD : Hid (Below wr.heap.size wr wr.drew) := Lib.hid (Below.drew (Below.refl _ _))
      have HCE : Hid (∀ W, Below wr.heap.size wr W → W.cell? ⟨b, 6, none⟩ = some (.slice (some ad) vs.length c6) ∧ W.cell? ⟨b, 7, none⟩ = some (.slice (some bd) us.length c7) ∧ W.cell? (ad.add n) = some (.slice la l.length lc) ∧ W.cell? (bd.add n) = some (.slice ma l.length mc)) := Lib.hid (fun W hW =>
        ⟨HC6.out W (HB.out.trans (hW.mono HB.out.size)), HC7.out W (HB.out.trans (hW.mono HB.out.size)), (hW.cell (p := ad.add n) (by rw [add_block]; exact hadl)).trans hc0, (hW.cell (p := bd.add n) (by rw [add_block]; exact hbdl)).trans hd0⟩)
      clear hl hlm hv hsl hu hsm hadl hbdl hc0 hd0
      go_wp2_with fail
      go_region_held3 (fun w' => w'.cell? ⟨b, 6, none⟩ = some (.slice (some ad) vs.length c6) ∧ w'.cell? ⟨b, 7, none⟩ = some (.slice (some bd) us.length c7) ∧ w'.cell? (ad.add n) = some (.slice la l.length lc) ∧ w'.cell? (bd.add n) = some (.slice ma l.length mc)) (first | with_reducible exact HCE.out _ HB3.out | with_reducible exact HCE.out _ HBD.out) ((go_at_call 15; refine HSB.out.mono ?_; rintro en w4 ⟨rfl, hb⟩; have HB3 : Hid (Below wr.heap.size wr w4) := Lib.hid (belows_then HBD.out HBD.out.size hb); clear hb))
      have HBN := Lib.hid (HB.out.trans (HB3.out.mono HB.out.size))
      go_wp2_with fail
      go_roundw
      case rel => exact ⟨n + 1, by omega, by go_num, HBN.out⟩
      case measure => simp [intOf]; omega
    · go_wp2_with fail
      go_ret
      exact ⟨rfl, HB.out⟩
end Go.Proofs.YtfnmlpnncjhnmaaGreat
