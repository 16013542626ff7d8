/- slices.SortedFunc of maps.Keys at pairs of small numbers, by group's order. -/
import Derived.Test.YtgggpaacagbmcaaGreatX13GroupInner
import Derived.Test.YtgggpaacagbmcaaGreatX14GroupInner
import Derived.Test.YtgggpaacagbmcaaGreatX17GroupInner
import Derived.Shelf.SlSortCmp.NoneTotal
set_option linter.unusedVariables false
set_option linter.unusedSimpArgs false
namespace Go.Proofs.YtgggpaacagbmcaaGreat
open Go.RowKit Go.Maps Go.Sort Go.Shelf Go.Proofs

def laySortF_ren : Go.Shelf.Ren := ⟨fun | 6 => 125 | 15 => 151 | 14 => 150 | 28 => 174 | 29 => 175 | 20 => 166 | 21 => 167 | 22 => 168 | 23 => 169 | 24 => 170 | 25 => 171 | 26 => 172 | 27 => 173 | 46 => 187 | 47 => 188 | 48 => 189 | 49 => 190 | 50 => 191 | 57 => 205 | n => n, fun | 22 => 132 | 24 => 131 | 25 => 137 | 3 => 3 | 39 => 229 | 0 => 0 | 53 => 256 | 55 => 210 | 4 => 4 | 46 => 250 | 45 => 249 | 50 => 234 | 5 => 5 | 9 => 9 | 66 => 266 | 70 => 155 | 76 => 278 | 77 => 279 | n => n, fun | n => n⟩
theorem laySortF : Go.Proofs.SlLaysF0.n6 Tryz.prog laySortF_ren := {
  mixed := by kernel_rfl
  f6 := ⟨Tryz.f125.name, by decide, Tryz.func125.trans (congrArg some (by kernel_rfl))⟩
  f14 := ⟨Tryz.f150.name, by decide, Tryz.func150.trans (congrArg some (by kernel_rfl))⟩
  f15 := Tryz.func151.trans (congrArg some (by kernel_rfl))
  f20 := ⟨Tryz.f166.name, by decide, Tryz.func166.trans (congrArg some (by kernel_rfl))⟩
  f21 := ⟨Tryz.f167.name, by decide, Tryz.func167.trans (congrArg some (by kernel_rfl))⟩
  f22 := ⟨Tryz.f168.name, by decide, Tryz.func168.trans (congrArg some (by kernel_rfl))⟩
  f23 := ⟨Tryz.f169.name, by decide, Tryz.func169.trans (congrArg some (by kernel_rfl))⟩
  f24 := ⟨Tryz.f170.name, by decide, Tryz.func170.trans (congrArg some (by kernel_rfl))⟩
  f25 := ⟨Tryz.f171.name, by decide, Tryz.func171.trans (congrArg some (by kernel_rfl))⟩
  f26 := ⟨Tryz.f172.name, by decide, Tryz.func172.trans (congrArg some (by kernel_rfl))⟩
  f27 := ⟨Tryz.f173.name, by decide, Tryz.func173.trans (congrArg some (by kernel_rfl))⟩
  f28 := Tryz.func174.trans (congrArg some (by kernel_rfl))
  f29 := Tryz.func175.trans (congrArg some (by kernel_rfl))
  f46 := ⟨Tryz.f187.name, by decide, Tryz.func187.trans (congrArg some (by kernel_rfl))⟩
  f47 := Tryz.func188.trans (congrArg some (by kernel_rfl))
  f48 := Tryz.func189.trans (congrArg some (by kernel_rfl))
  f49 := ⟨Tryz.f190.name, by decide, Tryz.func190.trans (congrArg some (by kernel_rfl))⟩
  f50 := ⟨Tryz.f191.name, by decide, Tryz.func191.trans (congrArg some (by kernel_rfl))⟩
  f57 := ⟨Tryz.f205.name, by decide, Tryz.func205.trans (congrArg some (by kernel_rfl))⟩
  t0 := Tryz.underlying0
  a0 := Tryz.isAgg0
  z0 := Tryz.sizeOf0
  v0 := Tryz.zeroValue0
  t3 := Tryz.underlying3
  a3 := Tryz.isAgg3
  z3 := Tryz.sizeOf3
  v3 := Tryz.zeroValue3
  t4 := Tryz.underlying4
  a4 := Tryz.isAgg4
  z4 := Tryz.sizeOf4
  v4 := Tryz.zeroValue4
  t5 := Tryz.underlying5
  a5 := Tryz.isAgg5
  z5 := Tryz.sizeOf5
  v5 := Tryz.zeroValue5
  t9 := Tryz.underlying9
  a9 := Tryz.isAgg9
  z9 := Tryz.sizeOf9
  v9 := Tryz.zeroValue9
  t22 := Tryz.underlying132
  a22 := Tryz.isAgg132
  z22 := Tryz.sizeOf132
  v22 := Tryz.zeroValue132
  t25 := Tryz.underlying137
  a25 := Tryz.isAgg137
  z25 := Tryz.sizeOf137
  v25 := Tryz.zeroValue137
  t39 := Tryz.underlying229
  a39 := Tryz.isAgg229
  z39 := Tryz.sizeOf229
  v39 := Tryz.zeroValue229
  t45 := Tryz.underlying249
  a45 := Tryz.isAgg249
  z45 := Tryz.sizeOf249
  v45 := Tryz.zeroValue249
  t46 := Tryz.underlying250
  a46 := Tryz.isAgg250
  z46 := Tryz.sizeOf250
  v46 := Tryz.zeroValue250
  t50 := Tryz.underlying234
  a50 := Tryz.isAgg234
  z50 := Tryz.sizeOf234
  v50 := Tryz.zeroValue234
  t53 := Tryz.underlying256
  a53 := Tryz.isAgg256
  z53 := Tryz.sizeOf256
  v53 := Tryz.zeroValue256
  t55 := Tryz.underlying210
  a55 := Tryz.isAgg210
  z55 := Tryz.sizeOf210
  v55 := Tryz.zeroValue210
  t66 := Tryz.underlying266
  a66 := Tryz.isAgg266
  z66 := Tryz.sizeOf266
  v66 := Tryz.zeroValue266
  t70 := Tryz.underlying155
  a70 := Tryz.isAgg155
  z70 := Tryz.sizeOf155
  v70 := Tryz.zeroValue155
  t76 := Tryz.underlying278
  a76 := Tryz.isAgg278
  z76 := Tryz.sizeOf278
  v76 := Tryz.zeroValue278
  t77 := Tryz.underlying279
  a77 := Tryz.isAgg279
  z77 := Tryz.sizeOf279
  v77 := Tryz.zeroValue279
}

abbrev F10 := Fin 10 × Fin 10
def zF (x : F10) : Int × Int := ((x.1.val : Int), (x.2.val : Int))
def encF (x : F10) : List Value := [.int .i64 (x.1.val : Int), .int .i64 (x.2.val : Int)]
def cfF (x y : F10) : Int := if x.1.val = y.1.val then (x.2.val : Int) - y.2.val else (x.1.val : Int) - y.1.val
theorem ltF (x y : F10) : ltOf cfF x y = decide (x.1.val < y.1.val ∨ x.1.val = y.1.val ∧ x.2.val < y.2.val) := by
  unfold ltOf cfF
  rw [decide_eq_decide]
  split <;> omega
theorem swoF : SWO (ltOf cfF) where
  irrefl x := by rw [ltF]; simp
  trans x y z h1 h2 := by rw [ltF] at *; simp only [decide_eq_true_eq] at *; omega
  ntrans x y z h1 h2 := by rw [ltF] at *; simp only [decide_eq_false_iff_not] at *; omega
theorem totF (x y : F10) (h1 : ltOf cfF x y = false) (h2 : ltOf cfF y x = false) : x = y := by
  rw [ltF] at h1 h2
  simp only [decide_eq_false_iff_not] at h1 h2
  obtain ⟨⟨a, ha⟩, ⟨b, hb⟩⟩ := x
  obtain ⟨⟨c, hc⟩, ⟨d, hd⟩⟩ := y
  simp only at h1 h2
  obtain rfl : a = c := by omega
  obtain rfl : b = d := by omega
  rfl
def srtF (l : List F10) : List F10 := l.mergeSort fun x y => !(ltOf cfF) y x
theorem srtF_perm {a b : List F10} (h : a.Perm b) : srtF a = srtF b := by
  unfold srtF
  have tr : ∀ (x y z : F10), (!(ltOf cfF) y x) = true → (!(ltOf cfF) z y) = true → (!(ltOf cfF) z x) = true := by
    intro x y z h1 h2
    rw [ltF] at *
    simp at *
    omega
  have to : ∀ (x y : F10), ((!(ltOf cfF) y x) || (!(ltOf cfF) x y)) = true := by
    intro x y
    rw [ltF, ltF]
    simp
    omega
  refine List.Perm.eq_of_pairwise (le := fun x y => (!(ltOf cfF) y x) = true) (fun x y _ _ h1 h2 => ?_) (List.pairwise_mergeSort tr to a) (List.pairwise_mergeSort tr to b) (((List.mergeSort_perm a _).trans h).trans (List.mergeSort_perm b _).symm)
  exact totF x y (by simpa using h2) (by simpa using h1)
theorem srtF_len (l : List F10) : (srtF l).length = l.length := (List.mergeSort_perm l _).length_eq

set_option maxHeartbeats 2000000 in
theorem order_any (a b c d : Nat) (ha : a < 10) (hb : b < 10) (hc : c < 10) (hd : d < 10) (W : World) :
    Calls Tryz.prog 82 #[.agg #[.int .i64 a, .int .i64 b], .agg #[.int .i64 c, .int .i64 d]] W fun e w' => e = .returned (.int .i64 (if a = c then (b : Int) - d else (a : Int) - c)) ∧ ∃ q os', w' = grow (W.drewN q) os' := by
  have h1 := blk_cells (blk_alloc (blk_new W (.cells #[.int .i64 a, .int .i64 b] 131)) (.cells #[.int .i64 c, .int .i64 d] 131))
  have h2 : ∀ o, ((W.alloc (.cells #[.int .i64 a, .int .i64 b] 131)).alloc (.cells #[.int .i64 c, .int .i64 d] 131)).cell? ⟨W.heap.size + 1, o, none⟩ = #[.int .i64 c, .int .i64 d][o]? := by
    have := blk_cells (blk_new (W.alloc (.cells #[.int .i64 a, .int .i64 b] 131)) (.cells #[.int .i64 c, .int .i64 d] 131))
    rw [World.size_alloc] at this
    exact this
  have hw : IntKind.i64.wrap ((a : Int) - c) = (a : Int) - c := wrap_is (by omega) (by omega)
  have hw2 : IntKind.i64.wrap ((b : Int) - d) = (b : Int) - d := wrap_is (by omega) (by omega)
  by_cases hac : a = c
  · have hac' : (a : Int) = c := by omega
    rw [if_pos hac]
    subst hac
    clear hac'
    go_enter Tryz.func82, Tryz.ntmps82
    go_wp2_with fail
    go_ret
    exact ⟨rfl, 0, _, by rw [alloc_eq_grow, alloc_eq_grow, grow_grow]; rfl⟩
  · have hac' : ¬ (a : Int) = c := by omega
    have hac2 : ((a : Int) != c) = true := by simpa using hac'
    rw [if_neg hac]
    clear hac
    go_enter Tryz.func82, Tryz.ntmps82
    go_wp2_with fail
    go_ret
    exact ⟨rfl, 0, _, by rw [alloc_eq_grow, alloc_eq_grow, grow_grow]; rfl⟩
theorem cmpF (blk off size : Nat) (w : World) : CmpLays Tryz.prog 82 #[] encF 2 cfF blk off size w :=
  fun _ _ _ _ x y => order_any x.1.val x.2.val y.1.val y.2.val x.1.isLt x.2.isLt y.1.isLt y.2.isLt _
theorem flatF_at : ∀ (l : List F10) (t : Nat), t < l.length * 2 → (l.flatMap encF)[t]? = some ((encF (l.toArray[t / 2]!))[t % 2]!)
  | [], t, h => by simp at h
  | x :: r, 0, h => rfl
  | x :: r, 1, h => rfl
  | x :: r, t + 2, h => by
    have ih := flatF_at r t (by simp at h; omega)
    have e1 : (t + 2) / 2 = t / 2 + 1 := by omega
    have e2 : (t + 2) % 2 = t % 2 := by omega
    rw [List.flatMap_cons, e1, e2]
    have : (encF x ++ r.flatMap encF)[t + 2]? = (r.flatMap encF)[t]? := by simp [encF]
    rw [this, ih]
    simp
/-- the row, sorted: what it holds, and that nothing else has turned -/
theorem sortF_any (g cap : Nat) (l : List F10) (w : World) {cur : Array Value} (hg : w.heap[g]? = some (.cells cur 131 (0, 0))) (hc : ∀ (j : Nat) (v : Value), (l.flatMap encF)[j]? = some v → cur[j]? = some v) (hl : l.length ≤ 1000) :
    Calls Tryz.prog 125 #[.slice (some ⟨g, 0, none⟩) l.length cap, .func (.func 82) #[] #[]] w fun e w' => e = .returned (.tuple #[]) ∧ But (fun k => k = g) w w' ∧ ∀ (j : Nat) (v : Value), ((srtF l).flatMap encF)[j]? = some v → w'.cell? ⟨g, j, none⟩ = some v := by
  have hlt := blk_lt hg
  have eg : ∀ args w, (callFunc 82 args).run Tryz.prog w = .ok (.enter 82 args) w := enters_of Tryz.func82 (by kernel_rfl) rfl
  have hH : HoldsK encF 2 w g 0 l.toArray := by
    intro t ht
    rw [size_flatK] at ht
    have h1 := flatF_at l t (by simpa using ht)
    refine ⟨?_, blk_frz hg _⟩
    rw [blk_cells hg, Nat.zero_add, hc _ _ h1, get_flatK _ _ _ t ht]
    rfl
  have hcon := AnyQ.slices_SortFunc_total laySortF 2 Tryz.isAgg131 Tryz.sizeOf131 encF (fun _ => rfl) (fun x v hv => by simp [encF] at hv; rcases hv with rfl | rfl <;> rfl) cfF swoF 82 #[] g 0 cap l.toArray w eg (cmpF _ _ _ _) hH hlt (by simp; omega) totF
  change Calls Tryz.prog 125 _ _ _ at hcon
  refine hcon.mono ?_
  rintro e w' ⟨rfl, n, os, rfl⟩
  have hs : ((l.toArray.toList.mergeSort fun x y => !(ltOf cfF) y x).toArray).size = l.toArray.size := by
    have := srtF_len l
    unfold srtF at this
    simp only [List.size_toArray]
    exact this
  refine ⟨rfl, ⟨rfl, rfl, rfl, size_sortWorldK_c encF 2 w g 0 _ _ _, fun k hk hne => ?_⟩, fun j v hj => ?_⟩
  · unfold sortWorldK putRowK putRow mapBlock grow
    show ((w.heap.modify g _) ++ os)[k]? = _
    rw [Array.getElem?_append_left (by simpa using hk), Array.getElem?_modify, if_neg (fun e => hne e.symm)]
  · have hjl : j < (srtF l).length * 2 := by
      have := (List.getElem?_eq_some_iff.1 hj).1
      have hfl : ∀ l : List F10, (l.flatMap encF).length = l.length * 2 := fun l => by
        induction l with
        | nil => rfl
        | cons x r ih => rw [List.flatMap_cons, List.length_append, ih, List.length_cons]; simp [encF]; omega
      rwa [hfl] at this
    have hh := holdsK_sortWorldK_c encF 2 w g 0 l.toArray (srtF l).toArray n os hH hlt (by simp [srtF]) j (by rw [size_flatK]; simpa using hjl)
    have h1 := hh.1
    rw [get_flatK _ _ _ j (by simp; exact hjl), Nat.zero_add] at h1
    rw [flatF_at _ _ hjl] at hj
    exact h1.trans hj
def toF (p : Int × Int) : F10 := (Fin.ofNat 10 p.1.toNat, Fin.ofNat 10 p.2.toNat)
theorem toF_zF (x : F10) : toF (zF x) = x := by
  obtain ⟨⟨a, ha⟩, ⟨b, hb⟩⟩ := x
  simp [toF, zF, Fin.ofNat, Nat.mod_eq_of_lt ha, Nat.mod_eq_of_lt hb]
def SqPost (w : World) (L : List F10) (e : Ending) (w' : World) : Prop := ∃ a cap, e = .returned (.slice a L.length cap) ∧ Sl tPair w' (fun _ => True) a ((srtF L).map zF) ∧ Below w.heap.size w w'
theorem small64 (n : Nat) (h : n < 10) : I64 (n : Int) := by
  unfold I64 Lit.wf
  simp [IntKind.min, IntKind.max, IntKind.bits, IntKind.signed]
  omega
theorem celQ_enc : ∀ l : List F10, celQ (l.map zF) = l.flatMap encF
  | [] => rfl
  | x :: r => by
    have := celQ_enc r
    unfold celQ at this ⊢
    rw [List.map_cons, List.flatMap_cons, List.flatMap_cons, this]
    rfl

set_option maxRecDepth 100000 in
set_option maxHeartbeats 4000000 in
theorem sortedQ_any (Bm b : Nat) (lst : GsQ) (L : List F10) (hL : lst.map (·.1) = L.map zF) (w : World) (hBm : Bm < w.heap.size) (hm : w.cell? ⟨Bm, 0, none⟩ = some (.map (some b))) (hM : MapIs mPair (Value.int .i64) w b lst) (hl : lst.length ≤ 1000) :
    Calls Tryz.prog 80 #[.func (.func 126) #[] #[.pointer (some ⟨Bm, 0, none⟩)], .func (.func 82) #[] #[]] w (SqPost w L) := by
  have c1 := (callsIn_wide (n := 3)).1 (collectQ_in 3 (Nat.le_refl _) 126 #[.pointer (some ⟨Bm, 0, none⟩)] (enters_of Tryz.func126 (by kernel_rfl) rfl) (fun ss => ss.Perm (lst.map (·.1))) lst.length (by unfold maxLen; omega) (by omega) w (keysQ_gives 1 (Nat.le_refl _) Bm b lst w hBm hm hM))
  have hLl : L.length = lst.length := by have := congrArg List.length hL; simpa using this.symm
  go_enter Tryz.func80, Tryz.ntmps80
  go_wp2_with fail
  refine c1.mono ?_
  rintro e w1 ⟨v, ss, rfl, hp, hrow, hnil, hb⟩
  rw [hL] at hp
  have hp2 : (ss.map toF).Perm L := by
    have := hp.map toF
    rw [List.map_map] at this
    have e : L.map (toF ∘ zF) = L := by
      rw [show toF ∘ zF = id from funext toF_zF, List.map_id]
    rwa [e] at this
  have hss : (ss.map toF).map zF = ss := by
    rw [List.map_map]
    refine (List.map_congr_left (fun x hx => ?_)).trans (List.map_id ss)
    obtain ⟨y, _, rfl⟩ := List.mem_map.1 (hp.mem_iff.1 hx)
    show zF (toF (zF y)) = id (zF y)
    rw [toF_zF]
    rfl
  have hsl : ss.length = L.length := by have := hp.length_eq; simpa using this
  obtain ⟨L2, hL2⟩ : ∃ L2, ss.map toF = L2 := ⟨_, rfl⟩
  rw [hL2] at hp2 hss
  have hl2 : L2.length = L.length := hp2.length_eq
  rw [← hss, celQ_enc] at hrow
  rw [hss, hsl] at hrow
  have hseq := srtF_perm hp2
  rcases hrow.2 with ⟨rfl, h0⟩ | ⟨g, cap, cur, rfl, hbase, hgb, hr1, hr2, hr3, hr4⟩
  · have hL0 : L = [] := List.length_eq_zero_iff.1 h0
    subst hL0
    have HB := Lib.hid hb
    clear hb hrow hnil c1 hm hM hp
    go_wp2_with fail
    have hnone := AnyF.slices_SortFunc_none (L := laySortF) (p := none) (cap := 0) (fv := .func (.func 82) #[] #[]) (w := w1)
    change Calls Tryz.prog 125 _ _ _ at hnone
    refine hnone.mono ?_
    rintro e w' ⟨rfl, rfl⟩
    go_wp2_with fail
    go_ret
    exact ⟨none, 0, rfl, fun i x hx => by simp [srtF] at hx, HB.out⟩
  · have hcc : ∀ j u, (L2.flatMap encF)[j]? = some u → cur[j]? = some u := fun j u hj => by
      rw [← hr4, List.getElem?_take] at hj
      split at hj
      · simpa using hj
      · cases hj
    have HS := Lib.hid (sortF_any g cap L2 w1 hgb hcc (by omega))
    rw [hl2] at HS
    have HB := Lib.hid hb
    have hgl := blk_lt hgb
    clear hb hrow hnil c1 hm hM hp hcc hr4 hgb hLl hl2 hsl hL
    go_wp2_with fail
    refine HS.out.mono ?_
    rintro e w2 ⟨rfl, hbu, hcells⟩
    have HBB := Lib.hid (But.toBelow HB.out hbu (fun k hk => by rw [hk]; exact hbase) HB.out.size)
    have HCC := Lib.hid hcells
    have hsz := hbu.size
    clear hbu hcells
    go_wp2_with fail
    go_ret
    refine ⟨some ⟨g, 0, none⟩, cap, rfl, fun i x hx => ?_, HBB.out⟩
    rw [List.getElem?_map] at hx
    obtain ⟨y, hy, rfl⟩ := Option.map_eq_some_iff.1 hx
    rw [← hseq] at hy
    have hil := (List.getElem?_eq_some_iff.1 hy).1
    refine ⟨_, encF y, rfl, trivial, by show g < w2.heap.size; omega, fun j u hj => ?_, ⟨rfl, small64 _ y.1.isLt, small64 _ y.2.isLt⟩⟩
    rw [show tPair.n = 2 from rfl, Go.Addr.add_add]
    have e1 : (⟨g, 0, none⟩ : Addr).add (i * 2 + j) = ⟨g, i * 2 + j, none⟩ := addQ_plain _ _
    rw [e1]
    refine HCC.out _ _ ?_
    have hj2 : j < 2 := (List.getElem?_eq_some_iff.1 hj).1
    rw [flatF_at _ _ (by omega), show (i * 2 + j) / 2 = i by omega, show (i * 2 + j) % 2 = j by omega]
    have hyi : (srtF L2).toArray[i]! = y := by
      have : (srtF L2).toArray[i]? = some y := by simpa using hy
      rw [getElem!_def, this]
    rw [hyi, getElem!_def, hj]
end Go.Proofs.YtgggpaacagbmcaaGreat
