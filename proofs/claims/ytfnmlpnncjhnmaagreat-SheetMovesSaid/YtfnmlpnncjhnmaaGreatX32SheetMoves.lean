/- slices.Insert of a journal ahead of others: elements of six cells. -/
import Derived.Test.YtfnmlpnncjhnmaaGreatX11SheetMoves
import Derived.Laws.CopyRow
import Derived.Lib.AppendZerosOnto
import Derived.Lib.Overlaps
import Derived.Laws.Externs
import Derived.Shelf.Spec.SlicesInsert
set_option linter.unusedVariables false
set_option linter.unusedSimpArgs false
namespace Go.Proofs.YtfnmlpnncjhnmaaGreat
open Go.RowKit Go.Maps Go.Shelf

/-- copy between rows of elements of K cells -/
theorem run_copy_rowK {P : Program} (w : World) (dT sT ty elem : TypeId) (K g o dLen dCap : Nat) (a : Addr) (sLen sCap : Nat) (cur : Array Value) (t : TypeId) (cs : List Value)
    (hu : P.underlying dT = some (.slice elem)) (hs : (P.info? elem).map (·.size) = some K)
    (hg : w.heap[g]? = some (.cells cur t (0, 0))) (hn : cs.length = Nat.min sLen dLen * K)
    (hsrc : ∀ j v, cs[j]? = some v → w.cell? (a.add j) = some v) (hfit : o + cs.length ≤ cur.size) (h1 : ∀ v ∈ cs, v.oneCell' = true) :
    (Builtin.copy_ #[dT, sT] ty #[.slice (some ⟨g, o, none⟩) dLen dCap, .slice (some a) sLen sCap]).run P w =
      .ok (goInt (Nat.min sLen dLen)) (w.setRow g (cur.toList.take o ++ cs ++ cur.toList.drop (o + cs.length)).toArray) := by
  have hl := run_loadCells_list (P := P) w a cs hsrc
  have hst := run_storeCells_at P g o t cs 0 cur w hg (by simpa using hfit) h1
  cases hq : P.info? elem with
  | none => simp [hq] at hs
  | some i =>
    have hi : i.size = K := by simpa [hq] using hs
    simp [Builtin.copy_, run_underlying hu, Builtin.lenOf, Builtin.firstCells, sizeOf, typeInfo, hq, hi, ← hn, hl, hst]

/-- first the rest is moved, then the new one is laid -/
theorem lay_room {L A R X : List Value} {n : Nat} (hL : L.take (A.length + R.length) = A ++ R) (hlen : A.length + X.length + R.length ≤ L.length) :
    (((L.take (A.length + X.length) ++ R ++ L.drop (A.length + X.length + R.length)).take A.length ++ X ++ (L.take (A.length + X.length) ++ R ++ L.drop (A.length + X.length + R.length)).drop (A.length + X.length))).take (A.length + X.length + R.length) = A ++ X ++ R := by
  have hA : L.take A.length = A := by
    have := congrArg (List.take A.length) hL
    rw [List.take_take] at this
    simpa using this
  have h1 : (L.take (A.length + X.length) ++ R ++ L.drop (A.length + X.length + R.length)).take A.length = A := by
    rw [List.append_assoc, List.take_append_of_le_length (by rw [List.length_take]; omega), List.take_take, Nat.min_eq_left (by omega), hA]
  have h2 : (L.take (A.length + X.length) ++ R ++ L.drop (A.length + X.length + R.length)).drop (A.length + X.length) = R ++ L.drop (A.length + X.length + R.length) := by
    rw [List.append_assoc, List.drop_append_of_le_length (by rw [List.length_take]; omega), List.drop_of_length_le (by rw [List.length_take]; omega)]
    rfl
  rw [h1, h2]
  rw [← List.append_assoc, List.take_append_of_le_length (by simp; omega), List.take_of_length_le (by simp; omega)]
/-- first the new one, then the rest -/
theorem lay_grow {L A R X : List Value} (hA : L.take A.length = A) (hlen : A.length + X.length + R.length ≤ L.length) :
    ((L.take A.length ++ X ++ L.drop (A.length + X.length)).take (A.length + X.length) ++ R ++ (L.take A.length ++ X ++ L.drop (A.length + X.length)).drop (A.length + X.length + R.length)).take (A.length + X.length + R.length) = A ++ X ++ R := by
  have h1 : (L.take A.length ++ X ++ L.drop (A.length + X.length)).take (A.length + X.length) = A ++ X := by
    rw [hA, List.take_append_of_le_length (by simp), List.take_of_length_le (by simp)]
  rw [h1, List.take_append_of_le_length (by simp; omega), List.take_of_length_le (by simp; omega)]

theorem flat_split {css : List (List Value)} (k : Nat) : css.flatten = (css.take k).flatten ++ (css.drop k).flatten := by
  rw [← List.flatten_append, List.take_append_drop]

theorem ins_done {w w' : World} {base : Nat} {F : Nat → Prop} {g cap g' cap' : Nat} {cur' : Array Value} {xs : List Jn} {css : List (List Value)} {k : Nat} {j : Jn} {c0 : List Value} (h2 : css.length = xs.length) (h3 : ∀ c ∈ css, c.length = 6) (hc0 : c0.length = 6)
    (h4 : ∀ (i : Nat) (c : List Value) (x : Jn), css[i]? = some c → xs[i]? = some x → tJn.R w (fun k => F k ∧ some k ≠ (Value.slice (some ⟨g, 0, none⟩) xs.length cap).ownBlock ∧ k < w.heap.size) c x)
    (hj : tJn.R w (fun k => F k ∧ some k ≠ (Value.slice (some ⟨g, 0, none⟩) xs.length cap).ownBlock ∧ k < w.heap.size) c0 j) (hk : k < xs.length) (hgr : w.grownBy w' (some g)) (hat : g' = g ∨ g' = w.heap.size) (hbg : base ≤ g')
    (hrow : w'.heap[g']? = some (.cells cur' 88 (0, 0))) (hn : xs.length + 1 ≤ cap') (hm : cap' ≤ maxLen) (hsz : cur'.size = cap' * 6) (htk : cur'.toList.take ((xs.length + 1) * 6) = (css.take k).flatten ++ c0 ++ (css.drop k).flatten) :
    InsPost w base F (.slice (some ⟨g, 0, none⟩) xs.length cap) (xs.take k ++ [j] ++ xs.drop k) (.returned (.slice (some ⟨g', 0, none⟩) (xs.length + 1) cap')) w' := by
  have turn : ∀ {c : List Value} {x : Jn}, tJn.R w (fun k => F k ∧ some k ≠ (Value.slice (some ⟨g, 0, none⟩) xs.length cap).ownBlock ∧ k < w.heap.size) c x → tJn.R w' (fun k => F k ∧ some k ≠ (Value.slice (some ⟨g', 0, none⟩) (xs.length + 1) cap').ownBlock ∧ k < w'.heap.size) c x := fun {c x} hr =>
    tJn.mono (fun k hk hf => (⟨hf.1, by
      rcases hat with h | h
      · rw [h]; exact hf.2.1
      · rw [h]; intro e; injection e with e; change k = w.heap.size at e; have := hf.2.2; omega, Nat.lt_of_lt_of_le hf.2.2 hgr.size⟩ : F k ∧ some k ≠ (Value.slice (some ⟨g', 0, none⟩) (xs.length + 1) cap').ownBlock ∧ k < w'.heap.size)) (tJn.keep (fun k hk hf => hgr.block k hk hf.2.1) hr)
  have hlen : (xs.take k ++ [j] ++ xs.drop k).length = xs.length + 1 := by simp; omega
  have hcl : (css.take k).length = k := by rw [List.length_take]; omega
  have hxl : (xs.take k).length = k := by rw [List.length_take]; omega
  refine ⟨_, rfl, ⟨css.take k ++ [c0] ++ css.drop k, ⟨?_, .inr ⟨g', cap', cur', by rw [hlen], hbg, hrow, by rw [hlen]; exact hn, hm, hsz, ?_⟩⟩, by rw [hlen]; simp; omega, fun c hc => ?_, fun i c x hi hx => ?_⟩, hgr, hat.imp (fun h => by rw [h]; rfl) (fun h => by rw [h]; rfl)⟩
  · rw [flat_len (n := 6) (fun c hc => ?_), hlen]
    · show (css.take k ++ [c0] ++ css.drop k).length * 6 = (xs.length + 1) * 6
      simp
      omega
    · simp only [List.mem_append, List.mem_singleton] at hc
      rcases hc with (hc | rfl) | hc
      · exact h3 c (List.mem_of_mem_take hc)
      · exact hc0
      · exact h3 c (List.mem_of_mem_drop hc)
  · rw [hlen]
    show cur'.toList.take ((xs.length + 1) * 6) = _
    rw [htk]
    simp
  · simp only [List.mem_append, List.mem_singleton] at hc
    rcases hc with (hc | rfl) | hc
    · exact h3 c (List.mem_of_mem_take hc)
    · exact hc0
    · exact h3 c (List.mem_of_mem_drop hc)
  · apply turn
    rw [List.append_assoc] at hi hx
    by_cases hik : i < k
    · rw [List.getElem?_append_left (by omega), List.getElem?_take_of_lt hik] at hi hx
      exact h4 i c x hi hx
    · rw [List.getElem?_append_right (by omega)] at hi hx
      rw [hcl] at hi
      rw [hxl] at hx
      by_cases h0 : i = k
      · subst h0
        simp at hi hx
        subst hi hx
        exact hj
      · obtain ⟨m, hm⟩ : ∃ m, i - k = m + 1 := ⟨i - k - 1, by omega⟩
        rw [hm] at hi hx
        simp only [List.singleton_append, List.getElem?_cons_succ, List.getElem?_drop] at hi hx
        exact h4 (k + m) c x hi hx

set_option maxHeartbeats 8000000 in
set_option maxRecDepth 100000 in
theorem insert_mid {w : World} {base : Nat} {F : Nat → Prop} {v : Value} {xs : List Jn} (hown : OwnF tJn w base F v xs) (hbase : base ≤ w.heap.size) (hlen : xs.length ≤ 1000) (k : Nat) (hk : k < xs.length) (j : Jn) (ja : Option Addr) (jc bj : Nat)
    (hbj : w.heap[bj]? = some (.cells #[.int .i64 j.id, .int .i64 j.en, .int .i64 j.pe, .string j.ref, .slice ja j.lines.length jc, .bool j.void] 88 (0, 0))) (hne : v.ownBlock ≠ some bj)
    (hj : tJn.R w (fun k => F k ∧ some k ≠ v.ownBlock ∧ k < w.heap.size) (jcs j ja jc) j) :
    Calls Tryz.prog 106 #[v, .int .i64 k, .slice (some ⟨bj, 0, none⟩) 1 1] w (InsPost w base F v (xs.take k ++ [j] ++ xs.drop k)) := by
  obtain ⟨i0, hi, hz0, hz1, hz2⟩ := info_parts infoJ
  obtain ⟨css, ⟨hfl, hrow⟩, h2, h3, h4⟩ := hown
  rcases hrow with ⟨rfl, h0⟩ | ⟨g, cap, cur, rfl, hgb, hg, hnc, hcm, hcs, htk⟩
  · omega
  have hgl : g < w.heap.size := (Array.getElem?_eq_some_iff.1 hg).1
  have hK : tJn.n = 6 := rfl
  rw [hK] at hcs htk hfl
  obtain ⟨A, hA⟩ : ∃ A, (css.take k).flatten = A := ⟨_, rfl⟩
  obtain ⟨R, hR⟩ : ∃ R, (css.drop k).flatten = R := ⟨_, rfl⟩
  have hAl : A.length = k * 6 := by
    rw [← hA, flat_len (n := 6) (fun c hc => h3 c (List.mem_of_mem_take hc)), List.length_take]
    rw [Nat.min_eq_left (by omega)]
  have hRl : R.length = (xs.length - k) * 6 := by
    rw [← hR, flat_len (n := 6) (fun c hc => h3 c (List.mem_of_mem_drop hc)), List.length_drop, h2]
  have hAR : css.flatten = A ++ R := by rw [flat_split k, hA, hR]
  rw [hAR] at htk
  have hX : (jcs j ja jc).length = 6 := rfl
  have hgbj : g ≠ bj := fun e => hne (by rw [e]; rfl)
  have h1A : ∀ u ∈ A, u.oneCell' = true := fun u hu => by
    rw [← hA] at hu
    obtain ⟨c, hc, huc⟩ := List.mem_flatten.1 hu
    obtain ⟨i, hi⟩ := List.mem_iff_getElem?.1 (List.mem_of_mem_take hc)
    have hil := (List.getElem?_eq_some_iff.1 hi).1
    exact jn_one _ _ _ _ (h4 i c xs[i] hi (List.getElem?_eq_getElem (by omega))) u huc
  have h1R : ∀ u ∈ R, u.oneCell' = true := fun u hu => by
    rw [← hR] at hu
    obtain ⟨c, hc, huc⟩ := List.mem_flatten.1 hu
    obtain ⟨i, hi⟩ := List.mem_iff_getElem?.1 (List.mem_of_mem_drop hc)
    have hil := (List.getElem?_eq_some_iff.1 hi).1
    exact jn_one _ _ _ _ (h4 i c xs[i] hi (List.getElem?_eq_getElem (by omega))) u huc
  have h1X : ∀ u ∈ jcs j ja jc, u.oneCell' = true := jn_one _ _ _ _ hj
  have hsz : (Tryz.prog.info? 88).map (·.size) = some 6 := by rw [hi]; simp [hz1]
  have hbjl : bj < w.heap.size := (Array.getElem?_eq_some_iff.1 hbj).1
  have HDONE := Lib.hid (fun (w' : World) (g' cap' : Nat) (cur' : Array Value) => ins_done (w := w) (w' := w') (base := base) (F := F) (g := g) (cap := cap) (g' := g') (cap' := cap') (cur' := cur') (xs := xs) (css := css) (k := k) (j := j) (c0 := jcs j ja jc) h2 h3 hX h4 hj hk)
  rw [hA, hR] at HDONE
  have hcsrc : ∀ (W : World), W.heap[bj]? = w.heap[bj]? → ∀ i u, (jcs j ja jc)[i]? = some u → W.cell? ((⟨bj, 0, none⟩ : Addr).add i) = some u := fun W hW i u hu => by
    have : (⟨bj, 0, none⟩ : Addr).add i = ⟨bj, i, none⟩ := by unfold Addr.add; split <;> simp_all
    rw [this, cell_of_row W bj i _ 88 (0, 0) (hW.trans hbj)]
    simpa using hu
  have hcc : cap = xs.length ∨ xs.length < cap := by omega
  rcases hcc with rfl | hcc
  · have hz3 : (xs.length : Int) < (xs.length : Int) + 1 := by omega
    have hkk : (xs.length : Int) + 1 - (k : Int) = ((xs.length + 1 - k : Nat) : Int) := by omega
    have hik : k + (xs.length + 1 - k) = xs.length + 1 := by omega
    have hold : (Builtin.firstCells i0.size k (.slice (some ⟨g, 0, none⟩) k xs.length)).run Tryz.prog w.drew = .ok A.toArray w.drew := by
      rw [hz1]
      exact run_firstCells_some w.drew 6 k ⟨g, 0, none⟩ k xs.length A (by rw [hAl]) (fun i u hu => by
        have h0 : (⟨g, 0, none⟩ : Addr).add i = ⟨g, i, none⟩ := by unfold Addr.add; split <;> simp_all
        rw [h0, cell_of_row w.drew g _ _ 88 (0, 0) hg]
        have hil := (List.getElem?_eq_some_iff.1 hu).1
        have h1 : (A ++ R)[i]? = some u := by rw [List.getElem?_append_left hil]; exact hu
        rw [← htk, List.getElem?_take] at h1
        split at h1
        · simpa using h1
        · cases h1)
    have hfit : Builtin.nextslicecap (k + (xs.length + 1 - k)) xs.length * i0.bytes ≤ 281474976710656 := by rw [hz2, hik]; exact growslice_fits (by omega) (by omega)
    obtain ⟨z, hz⟩ : ∃ z, z = Value.agg #[.int .i64 0, .int .i64 0, .int .i64 0, .string ⟨#[]⟩, .slice none 0 0, .bool false] := ⟨_, rfl⟩
    have hzc : z.cells.size = 6 := by rw [hz]; rfl
    rw [← hz] at hz0
    obtain ⟨G, hG⟩ : ∃ G, G = grownCap w (xs.length + 1) xs.length 88 := ⟨_, rfl⟩
    obtain ⟨ROW, hROW⟩ : ∃ ROW : Array Value, ROW = A.toArray ++ Builtin.zeroCells z.cells (xs.length + 1 - k) ++ Builtin.zeroCells z.cells (G - (xs.length + 1)) := ⟨_, rfl⟩
    have hGn : xs.length + 1 ≤ G := by rw [hG]; exact grownCap_ge w _ _ _
    have hGm : G ≤ maxLen := by rw [hG]; exact grownCap_le_maxLen w (xs.length + 1) xs.length 88 (by unfold maxLen; omega)
    have hG63 : G ≤ 9223372036854775807 := by unfold maxLen at hGm; omega
    have hzs : ∀ m, (Builtin.zeroCells z.cells m).size = m * 6 := fun m => by simp [Builtin.zeroCells, hzc]
    have hRs : ROW.size = G * 6 := by
      rw [hROW, Array.size_append, Array.size_append, hzs, hzs, List.size_toArray, hAl]
      omega
    obtain ⟨W1, hW1⟩ : ∃ W1, W1 = w.drew.alloc (.cells ROW 88) := ⟨_, rfl⟩
    have hrz : ∀ ty, (Builtin.append_ #[22, 3] ty #[.slice (some ⟨g, 0, none⟩) k xs.length, .int .i64 ((xs.length : Int) + 1 - (k : Int))]).run Tryz.prog w = .ok (.slice (some ⟨w.heap.size, 0, none⟩) (xs.length + 1) G) W1 := fun ty => by
      have h := Lib.run_append_grow_zeros w 22 3 ty 88 i0 z .i64 .i64 Tryz.underlying22 Tryz.underlying3 hi hz0 (some ⟨g, 0, none⟩) k xs.length A hold (xs.length + 1 - k) (by omega) (by rw [hz1]; omega) (by omega) (by omega) (by rw [hz2]; omega) hfit
      rw [hik, ← hG, ← hROW, ← hW1] at h
      rw [hkk]
      exact h
    obtain ⟨NB, hNB⟩ : ∃ NB, w.heap.size = NB := ⟨_, rfl⟩
    rw [hNB] at hrz
    have hg1 : W1.heap[NB]? = some (.cells ROW 88 (0, 0)) := by rw [hW1, ← hNB]; exact blk_new w.drew _
    have ho1 : ∀ b, b < NB → W1.heap[b]? = w.heap[b]? := fun b hb => by rw [hW1]; exact Below.heap_alloc w.drew _ b (by show b < w.heap.size; omega)
    obtain ⟨C1, hC1⟩ : ∃ C1, (ROW.toList.take (k * 6) ++ jcs j ja jc ++ ROW.toList.drop (k * 6 + (jcs j ja jc).length)).toArray = C1 := ⟨_, rfl⟩
    obtain ⟨W2, hW2⟩ : ∃ W2, W2 = W1.setRow NB C1 := ⟨_, rfl⟩
    have hmin1 : Nat.min 1 (xs.length + 1 - k) = 1 := by simp only [Nat.min_def]; split <;> omega
    have hmin2 : Nat.min (xs.length - k) (xs.length - k) = xs.length - k := by simp only [Nat.min_def]; split <;> omega
    have hcpA : ∀ ty dc, (Builtin.copy_ #[22, 22] ty #[.slice (some ⟨NB, k * 6, none⟩) (xs.length + 1 - k) dc, .slice (some ⟨bj, 0, none⟩) 1 1]).run Tryz.prog W1 = .ok (goInt 1) W2 := fun ty dc => by
      have h := run_copy_rowK W1 22 22 ty 88 6 NB (k * 6) (xs.length + 1 - k) dc ⟨bj, 0, none⟩ 1 1 ROW 88 (jcs j ja jc) Tryz.underlying22 hsz hg1 (by rw [hmin1]; rfl) (hcsrc W1 (ho1 bj (by omega))) (by rw [hX, hRs]; omega) h1X
      rw [hmin1, hC1, ← hW2] at h
      exact h
    have hg2 : W2.heap[NB]? = some (.cells C1 88 (0, 0)) := by rw [hW2]; exact setRow_heap _ _ _ _ _ _ hg1
    have ho2 : ∀ b, b < NB → W2.heap[b]? = w.heap[b]? := fun b hb => by rw [hW2]; exact (setRow_other _ _ _ _ (by omega)).trans (ho1 b hb)
    have hCl1 : C1.size = G * 6 := by
      rw [← hC1, List.size_toArray, List.length_append, List.length_append, List.length_take, List.length_drop, Array.length_toList, hRs, hX]
      omega
    have hcR : ∀ (W : World), W.heap[g]? = w.heap[g]? → ∀ i u, R[i]? = some u → W.cell? ((⟨g, k * 6, none⟩ : Addr).add i) = some u := fun W hW i u hu => by
      have : (⟨g, k * 6, none⟩ : Addr).add i = ⟨g, k * 6 + i, none⟩ := by unfold Addr.add; split <;> simp_all
      rw [this, cell_of_row W g _ _ 88 (0, 0) (hW.trans hg)]
      have h1 : (A ++ R)[k * 6 + i]? = some u := by rw [List.getElem?_append_right (by omega), hAl, Nat.add_sub_cancel_left]; exact hu
      rw [← htk, List.getElem?_take] at h1
      split at h1
      · simpa using h1
      · cases h1
    obtain ⟨C2, hC2⟩ : ∃ C2, (C1.toList.take ((k + 1) * 6) ++ R ++ C1.toList.drop ((k + 1) * 6 + R.length)).toArray = C2 := ⟨_, rfl⟩
    obtain ⟨W3, hW3⟩ : ∃ W3, W3 = W2.drew.setRow NB C2 := ⟨_, rfl⟩
    have hcpB : ∀ ty dc sc, (Builtin.copy_ #[22, 22] ty #[.slice (some ⟨NB, (k + 1) * 6, none⟩) (xs.length - k) dc, .slice (some ⟨g, k * 6, none⟩) (xs.length - k) sc]).run Tryz.prog W2.drew = .ok (goInt ((xs.length - k : Nat) : Int)) W3 := fun ty dc sc => by
      have h := run_copy_rowK W2.drew 22 22 ty 88 6 NB ((k + 1) * 6) (xs.length - k) dc ⟨g, k * 6, none⟩ (xs.length - k) sc C1 88 R Tryz.underlying22 hsz hg2 (by rw [hmin2, hRl]) (hcR W2.drew (ho2 g (by omega))) (by rw [hRl, hCl1]; omega) h1R
      rw [hmin2, hC2, ← hW3] at h
      exact h
    have hg3 : W3.heap[NB]? = some (.cells C2 88 (0, 0)) := by rw [hW3]; exact setRow_heap _ _ _ _ _ _ hg2
    have ho3 : ∀ b, b < NB → W3.heap[b]? = w.heap[b]? := fun b hb => by rw [hW3]; exact (setRow_other _ _ _ _ (by omega)).trans (ho2 b hb)
    have hs3 : w.heap.size ≤ W3.heap.size := by
      have := (Array.getElem?_eq_some_iff.1 hg3).1
      omega
    have hRA : ROW.toList.take A.length = A := by
      rw [hROW, Array.toList_append, Array.toList_append, List.append_assoc, List.take_append_of_le_length (by simp)]
      simp
    have hRL : ROW.toList.length = G * 6 := by rw [Array.length_toList]; exact hRs
    have hC1L : C1.toList.length = G * 6 := by rw [Array.length_toList]; exact hCl1
    have hfin := lay_grow (L := ROW.toList) (A := A) (R := R) (X := jcs j ja jc) hRA (by rw [hAl, hX, hRl, hRL]; omega)
    have HG := Lib.hid (HDONE.out W3 NB G C2 ⟨by rw [hW3, hW2, hW1]; rfl, by rw [hW3, hW2, hW1]; rfl, by rw [hW3, hW2, hW1]; rfl, hs3, fun b hb _ => ho3 b (by omega)⟩ (.inr hNB.symm) (by omega) hg3 hGn hGm (by
      rw [← hC2, List.size_toArray, List.length_append, List.length_append, List.length_take, List.length_drop, hC1L, hRl]
      omega) (by
      have e1 : (k + 1) * 6 = A.length + (jcs j ja jc).length := by rw [hAl, hX]; omega
      have e2 : (xs.length + 1) * 6 = A.length + (jcs j ja jc).length + R.length := by rw [hAl, hX, hRl]; omega
      rw [e2, ← hC2, e1, ← hC1, ← hAl]
      exact hfin))
    have hGi : ¬ (G = k) := by omega
    have hGim : ¬ (G = k + 1) := by omega
    have hci : ¬ (xs.length = k) := by omega
    have hw1 : IntKind.i64.wrap ((k : Int) + 1) = (k : Int) + 1 := by rw [IntKind.wrap_i64]; omega
    have hb1 : (0 : Int) ≤ (k : Int) + 1 := by omega
    have hb5 : (k : Int) + 1 ≤ (xs.length : Int) + 1 := by omega
    have hin : k ≤ xs.length := by omega
    have htn : ((k : Int) + 1).toNat = k + 1 := by omega
    have hb3 : (k : Int) ≤ (xs.length : Int) + 1 := by omega
    clear hkk hik hold hfit hzc hz0 hROW hGn hGm hzs hRs hg1 ho1 hC1 hW2 hmin1 hmin2 hg2 ho2 hCl1 hcR hC2 hW3 hg3 ho3 hs3 hRA hfin hRL hC1L hW1 hG hz hg hbj h2 h3 h4 hA hR hAR hfl hj h1A h1R h1X hcsrc hcs htk hAl hRl hX HDONE hi hNB
    go_enter Tryz.func106, Tryz.ntmps106
    go_wp2_with (first
      | (at_builtin; refine Lib.wpList_append_run _ rfl _ _ _ _ rfl _ _ rfl rfl _ _ (hrz _) ?_)
      | (at_builtin; refine wpList_copy_runI _ rfl _ _ 22 22 rfl _ _ rfl rfl (hcpA _ _) ?_))
    go_region_law (refine step_copy_runI rfl _ _ 22 22 rfl _ _ (by simp [Act.eval, Act.put]) (by simp [Act.eval, Act.put]) (hcpB _ _ _) ?_)
    go_wp2
    go_ret
    exact HG.out
  · have hroom : ¬ ((cap : Int) < (xs.length : Int) + 1) := by omega
    have hmin1 : Nat.min (xs.length + 1 - k) (xs.length - k) = xs.length - k := by simp only [Nat.min_def]; split <;> omega
    have hmin2 : Nat.min 1 (xs.length + 1 - k) = 1 := by simp only [Nat.min_def]; split <;> omega
    have hcR : ∀ (W : World), W.heap[g]? = w.heap[g]? → ∀ i u, R[i]? = some u → W.cell? ((⟨g, k * 6, none⟩ : Addr).add i) = some u := fun W hW i u hu => by
      have : (⟨g, k * 6, none⟩ : Addr).add i = ⟨g, k * 6 + i, none⟩ := by unfold Addr.add; split <;> simp_all
      rw [this, cell_of_row W g _ _ 88 (0, 0) (hW.trans hg)]
      have h1 : (A ++ R)[k * 6 + i]? = some u := by rw [List.getElem?_append_right (by omega), hAl, Nat.add_sub_cancel_left]; exact hu
      rw [← htk, List.getElem?_take] at h1
      split at h1
      · simpa using h1
      · cases h1
    have hcp1 : ∀ (W : World), W.heap[g]? = w.heap[g]? → ∀ ty dc sc, (Builtin.copy_ #[22, 22] ty #[.slice (some ⟨g, (k + 1) * 6, none⟩) (xs.length - k) dc, .slice (some ⟨g, k * 6, none⟩) (xs.length + 1 - k) sc]).run Tryz.prog W = .ok (goInt ((xs.length - k : Nat) : Int)) (W.setRow g (cur.toList.take ((k + 1) * 6) ++ R ++ cur.toList.drop ((k + 1) * 6 + R.length)).toArray) := fun W hW ty dc sc => by
      have h := run_copy_rowK W 22 22 ty 88 6 g ((k + 1) * 6) (xs.length - k) dc ⟨g, k * 6, none⟩ (xs.length + 1 - k) sc cur 88 R Tryz.underlying22 hsz (hW.trans hg) (by rw [hmin1, hRl]) (hcR W hW) (by rw [hRl, hcs]; omega) h1R
      rw [hmin1] at h
      exact h
    have hov : ∀ lb cb, (callFunc 152 #[.slice (some ⟨bj, 0, none⟩) 1 1, .slice (some ⟨g, (k + 1) * 6, none⟩) lb cb]).run Tryz.prog w = .ok (.value (.bool false)) w := fun lb cb => by
      rw [run_callFunc_extern Tryz.func152 (by kernel_rfl) (by kernel_rfl) (by kernel_rfl) (e := Extern.SlicesOverlaps.overlaps #[22, 22] #[4]) (by kernel_rfl),
        Lib.run_overlaps_apart w 22 4 88 Tryz.underlying22 6 (fun w => by simp [Go.sizeOf, typeInfo, hi, hz1]) ⟨bj, 0, none⟩ ⟨g, (k + 1) * 6, none⟩ 1 1 lb cb (Ne.symm hgbj) 88 88 6 cur.size (by simp [World.shape?, hbj]) (by simp [World.shape?, hg]) (by omega) (blk_frz hbj 0) (blk_frz hbj 6)]
      rfl
    obtain ⟨W1, hW1⟩ : ∃ W1, W1 = w.drew.setRow g (cur.toList.take ((k + 1) * 6) ++ R ++ cur.toList.drop ((k + 1) * 6 + R.length)).toArray := ⟨_, rfl⟩
    have hcp1' := hcp1 w.drew rfl
    rw [← hW1] at hcp1'
    have hw1 : IntKind.i64.wrap ((k : Int) + 1) = (k : Int) + 1 := by rw [IntKind.wrap_i64]; omega
    have hb1 : (0 : Int) ≤ (k : Int) + 1 := by omega
    have hb5 : (k : Int) + 1 ≤ (xs.length : Int) + 1 := by omega
    have hin : k ≤ xs.length := by omega
    have htn : ((k : Int) + 1).toNat = k + 1 := by omega
    have hb2 : ¬ (cap = k + 1) := by omega
    have hb3 : (k : Int) ≤ (xs.length : Int) + 1 := by omega
    have hb4 : ¬ (cap = k) := by omega
    have hgW : W1.heap[g]? = some (.cells (cur.toList.take ((k + 1) * 6) ++ R ++ cur.toList.drop ((k + 1) * 6 + R.length)).toArray 88 (0, 0)) := by rw [hW1]; exact setRow_heap _ _ cur _ _ _ hg
    have hoW : ∀ b, b ≠ g → W1.heap[b]? = w.heap[b]? := fun b hb => by rw [hW1]; exact setRow_other _ _ _ _ hb
    have hsW : W1.heap.size = w.heap.size := by rw [hW1]; simp
    have hcp2 : ∀ ty dc, (Builtin.copy_ #[22, 22] ty #[.slice (some ⟨g, k * 6, none⟩) (xs.length + 1 - k) dc, .slice (some ⟨bj, 0, none⟩) 1 1]).run Tryz.prog W1 = .ok (goInt 1) (W1.setRow g ((cur.toList.take ((k + 1) * 6) ++ R ++ cur.toList.drop ((k + 1) * 6 + R.length)).toArray.toList.take (k * 6) ++ jcs j ja jc ++ (cur.toList.take ((k + 1) * 6) ++ R ++ cur.toList.drop ((k + 1) * 6 + R.length)).toArray.toList.drop (k * 6 + (jcs j ja jc).length)).toArray) := fun ty dc => by
      have h := run_copy_rowK W1 22 22 ty 88 6 g (k * 6) (xs.length + 1 - k) dc ⟨bj, 0, none⟩ 1 1 _ 88 (jcs j ja jc) Tryz.underlying22 hsz hgW (by rw [hmin2]; rfl) (hcsrc W1 (hoW bj (Ne.symm hgbj))) (by simp [hRl, hX]; omega) h1X
      rw [hmin2] at h
      exact h
    obtain ⟨C1, hC1⟩ : ∃ C1, (cur.toList.take ((k + 1) * 6) ++ R ++ cur.toList.drop ((k + 1) * 6 + R.length)).toArray = C1 := ⟨_, rfl⟩
    rw [hC1] at hgW hcp2
    obtain ⟨C2, hC2⟩ : ∃ C2, (C1.toList.take (k * 6) ++ jcs j ja jc ++ C1.toList.drop (k * 6 + (jcs j ja jc).length)).toArray = C2 := ⟨_, rfl⟩
    rw [hC2] at hcp2
    have HC1 := Lib.hid hC1
    have HC2 := Lib.hid hC2
    have HGW := Lib.hid hgW
    have HOW := Lib.hid hoW
    have HSW := Lib.hid hsW
    have HW1 := Lib.hid hW1
    have HRl := Lib.hid hRl
    have HAl := Lib.hid hAl
    have HTK := Lib.hid htk
    have HCS := Lib.hid hcs
    have HX := Lib.hid hX
    clear hcp1 hC1 hC2 hgW hoW hsW hW1 hRl hAl htk hcs hX hg hbj h2 h3 h4 hA hR hAR hfl hj h1A h1R h1X hcsrc hcR
    go_enter Tryz.func106, Tryz.ntmps106
    go_wp2_with (simp only [hov])
    go_region_law (refine step_copy_runI rfl _ _ 22 22 rfl _ _ (by simp [Act.eval, Act.put]) (by simp [Act.eval, Act.put]) (hcp1' _ _ _) ?_)
    go_wp2_with (at_builtin; refine wpList_copy_runI _ rfl _ _ 22 22 rfl _ _ rfl rfl (hcp2 _ _) ?_)
    go_ret
    have e1 : (k + 1) * 6 = A.length + (jcs j ja jc).length := by rw [HAl.out, HX.out]; omega
    have hCl : cur.toList.length = cap * 6 := by rw [Array.length_toList]; exact HCS.out
    have hL1 : A.length + (jcs j ja jc).length + R.length ≤ cur.toList.length := by rw [HAl.out, HX.out, HRl.out, hCl]; omega
    have hrm := lay_room (L := cur.toList) (A := A) (R := R) (X := jcs j ja jc) (n := 0) (by
      have e : A.length + R.length = xs.length * 6 := by rw [HAl.out, HRl.out]; omega
      rw [e]; exact HTK.out) hL1
    have hc1 : C1.toList = cur.toList.take (A.length + (jcs j ja jc).length) ++ R ++ cur.toList.drop (A.length + (jcs j ja jc).length + R.length) := by rw [← HC1.out, e1]
    have hc2 : C2.toList = C1.toList.take A.length ++ jcs j ja jc ++ C1.toList.drop (A.length + (jcs j ja jc).length) := by rw [← HC2.out, HAl.out]
    have hl1 : C1.toList.length = cap * 6 := by
      rw [hc1, List.length_append, List.length_append, List.length_take, List.length_drop]
      omega
    refine HDONE.out _ g cap C2 ⟨by rw [HW1.out]; rfl, by rw [HW1.out]; rfl, by rw [HW1.out]; rfl, by simp [HSW.out], fun b hb hbg => (setRow_other _ _ _ _ (fun e => hbg (by rw [e]))).trans (HOW.out b (fun e => hbg (by rw [e])))⟩ (.inl rfl) hgb (setRow_heap _ _ _ _ _ _ HGW.out) (by omega) hcm ?_ ?_
    · rw [← Array.length_toList, hc2, List.length_append, List.length_append, List.length_take, List.length_drop]
      omega
    · have e2 : (xs.length + 1) * 6 = A.length + (jcs j ja jc).length + R.length := by rw [HAl.out, HX.out, HRl.out]; omega
      rw [e2, hc2, hc1]
      exact hrm
end Go.Proofs.YtfnmlpnncjhnmaaGreat
