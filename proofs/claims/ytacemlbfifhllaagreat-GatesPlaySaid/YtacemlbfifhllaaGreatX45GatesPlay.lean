/- slices.SortedFunc of maps.Keys at places, by their order: in general. -/
import Derived.Test.YtacemlbfifhllaaGreatX44GatesPlay
import Derived.Test.YtacemlbfifhllaaGreatX17GatesPlay
import Derived.Test.YtacemlbfifhllaaGreatX24GatesPlay
import Derived.Shelf.SlSortCmp.NoneTotal
set_option linter.unusedVariables false
set_option linter.unusedSimpArgs false
namespace Go.Proofs.YtacemlbfifhllaaGreat
open Go.RowKit Go.Maps Go.Sort Go.Shelf Go.Proofs

abbrev fldU (n : String) (t o b : Nat) : Field := { name := n, type := t, offset := o, embedded := false, tag := "", pkgPath := "variorum/gates", byteOffset := b }
def fPlace : Flds Tryz.prog [fldU "entity" 3 0 0, fldU "period" 3 1 8] 0 (Int × Int × Unit) :=
  Flds.cons (f := fldU "entity" 3 0 0) tInt rfl (Flds.cons (f := fldU "period" 3 1 8) tInt rfl (Flds.nil _ _))
def tPlace : Ty Tryz.prog 62 (Int × Int) := (Ty.struct Tryz.underlying62 fPlace (by kernel_rfl)).map (fun x => (x.1, x.2.1))
theorem place_mk {w : World} {F : Nat → Prop} (x : Int × Int) (h1 : I64 x.1) (h2 : I64 x.2) : tPlace.R w F [.int .i64 x.1, .int .i64 x.2] x :=
  ⟨(x.1, x.2, ()), rfl, [_], [_], rfl, ⟨rfl, h1⟩, [_], [], rfl, ⟨rfl, h2⟩, rfl⟩
theorem place_inv {w : World} {F : Nat → Prop} {cs : List Value} {x : Int × Int} (h : tPlace.R w F cs x) : cs = [.int .i64 x.1, .int .i64 x.2] ∧ I64 x.1 ∧ I64 x.2 := by
  obtain ⟨y, rfl, c1, c2, rfl, ⟨rfl, h1⟩, c3, c4, rfl, ⟨rfl, h2⟩, rfl⟩ := h
  exact ⟨rfl, h1, h2⟩
def laySortG_ren : Go.Shelf.Ren := ⟨fun | 6 => 68 | 15 => 93 | 14 => 92 | 28 => 104 | 29 => 105 | 20 => 96 | 21 => 97 | 22 => 98 | 23 => 99 | 24 => 100 | 25 => 101 | 26 => 102 | 27 => 103 | 46 => 106 | 47 => 107 | 48 => 108 | 49 => 109 | 50 => 110 | 57 => 111 | n => n, fun | 22 => 66 | 24 => 62 | 25 => 71 | 3 => 3 | 39 => 145 | 0 => 0 | 53 => 157 | 55 => 159 | 4 => 4 | 46 => 150 | 45 => 149 | 50 => 154 | 5 => 5 | 9 => 9 | 66 => 161 | 70 => 165 | 76 => 167 | 77 => 168 | n => n, fun | n => n⟩
theorem laySortG : Go.Proofs.SlLaysF0.n6 Tryz.prog laySortG_ren := {
  mixed := by kernel_rfl
  f6 := ⟨Tryz.f68.name, by decide, Tryz.func68.trans (congrArg some (by kernel_rfl))⟩
  f14 := ⟨Tryz.f92.name, by decide, Tryz.func92.trans (congrArg some (by kernel_rfl))⟩
  f15 := Tryz.func93.trans (congrArg some (by kernel_rfl))
  f20 := ⟨Tryz.f96.name, by decide, Tryz.func96.trans (congrArg some (by kernel_rfl))⟩
  f21 := ⟨Tryz.f97.name, by decide, Tryz.func97.trans (congrArg some (by kernel_rfl))⟩
  f22 := ⟨Tryz.f98.name, by decide, Tryz.func98.trans (congrArg some (by kernel_rfl))⟩
  f23 := ⟨Tryz.f99.name, by decide, Tryz.func99.trans (congrArg some (by kernel_rfl))⟩
  f24 := ⟨Tryz.f100.name, by decide, Tryz.func100.trans (congrArg some (by kernel_rfl))⟩
  f25 := ⟨Tryz.f101.name, by decide, Tryz.func101.trans (congrArg some (by kernel_rfl))⟩
  f26 := ⟨Tryz.f102.name, by decide, Tryz.func102.trans (congrArg some (by kernel_rfl))⟩
  f27 := ⟨Tryz.f103.name, by decide, Tryz.func103.trans (congrArg some (by kernel_rfl))⟩
  f28 := Tryz.func104.trans (congrArg some (by kernel_rfl))
  f29 := Tryz.func105.trans (congrArg some (by kernel_rfl))
  f46 := ⟨Tryz.f106.name, by decide, Tryz.func106.trans (congrArg some (by kernel_rfl))⟩
  f47 := Tryz.func107.trans (congrArg some (by kernel_rfl))
  f48 := Tryz.func108.trans (congrArg some (by kernel_rfl))
  f49 := ⟨Tryz.f109.name, by decide, Tryz.func109.trans (congrArg some (by kernel_rfl))⟩
  f50 := ⟨Tryz.f110.name, by decide, Tryz.func110.trans (congrArg some (by kernel_rfl))⟩
  f57 := ⟨Tryz.f111.name, by decide, Tryz.func111.trans (congrArg some (by kernel_rfl))⟩
  t0 := Tryz.underlying0
  a0 := Tryz.isAgg0
  z0 := Tryz.sizeOf0
  v0 := Tryz.zeroValue0
  t3 := Tryz.underlying3
  a3 := Tryz.isAgg3
  z3 := Tryz.sizeOf3
  v3 := Tryz.zeroValue3
  t4 := Tryz.underlying4
  a4 := Tryz.isAgg4
  z4 := Tryz.sizeOf4
  v4 := Tryz.zeroValue4
  t5 := Tryz.underlying5
  a5 := Tryz.isAgg5
  z5 := Tryz.sizeOf5
  v5 := Tryz.zeroValue5
  t9 := Tryz.underlying9
  a9 := Tryz.isAgg9
  z9 := Tryz.sizeOf9
  v9 := Tryz.zeroValue9
  t22 := Tryz.underlying66
  a22 := Tryz.isAgg66
  z22 := Tryz.sizeOf66
  v22 := Tryz.zeroValue66
  t25 := Tryz.underlying71
  a25 := Tryz.isAgg71
  z25 := Tryz.sizeOf71
  v25 := Tryz.zeroValue71
  t39 := Tryz.underlying145
  a39 := Tryz.isAgg145
  z39 := Tryz.sizeOf145
  v39 := Tryz.zeroValue145
  t45 := Tryz.underlying149
  a45 := Tryz.isAgg149
  z45 := Tryz.sizeOf149
  v45 := Tryz.zeroValue149
  t46 := Tryz.underlying150
  a46 := Tryz.isAgg150
  z46 := Tryz.sizeOf150
  v46 := Tryz.zeroValue150
  t50 := Tryz.underlying154
  a50 := Tryz.isAgg154
  z50 := Tryz.sizeOf154
  v50 := Tryz.zeroValue154
  t53 := Tryz.underlying157
  a53 := Tryz.isAgg157
  z53 := Tryz.sizeOf157
  v53 := Tryz.zeroValue157
  t55 := Tryz.underlying159
  a55 := Tryz.isAgg159
  z55 := Tryz.sizeOf159
  v55 := Tryz.zeroValue159
  t66 := Tryz.underlying161
  a66 := Tryz.isAgg161
  z66 := Tryz.sizeOf161
  v66 := Tryz.zeroValue161
  t70 := Tryz.underlying165
  a70 := Tryz.isAgg165
  z70 := Tryz.sizeOf165
  v70 := Tryz.zeroValue165
  t76 := Tryz.underlying167
  a76 := Tryz.isAgg167
  z76 := Tryz.sizeOf167
  v76 := Tryz.zeroValue167
  t77 := Tryz.underlying168
  a77 := Tryz.isAgg168
  z77 := Tryz.sizeOf168
  v77 := Tryz.zeroValue168
}

abbrev FG := Fin 10 × Fin 1200
def zG (x : FG) : Int × Int := ((x.1.val : Int), (x.2.val : Int))
def encG (x : FG) : List Value := [.int .i64 (x.1.val : Int), .int .i64 (x.2.val : Int)]
def cfG (x y : FG) : Int := if x.1.val = y.1.val then (x.2.val : Int) - y.2.val else (x.1.val : Int) - y.1.val
theorem ltGf (x y : FG) : ltOf cfG x y = decide (x.1.val < y.1.val ∨ x.1.val = y.1.val ∧ x.2.val < y.2.val) := by
  unfold ltOf cfG
  rw [decide_eq_decide]
  split <;> omega
theorem swoG : SWO (ltOf cfG) where
  irrefl x := by rw [ltGf]; simp
  trans x y z h1 h2 := by rw [ltGf] at *; simp only [decide_eq_true_eq] at *; omega
  ntrans x y z h1 h2 := by rw [ltGf] at *; simp only [decide_eq_false_iff_not] at *; omega
theorem totG (x y : FG) (h1 : ltOf cfG x y = false) (h2 : ltOf cfG y x = false) : x = y := by
  rw [ltGf] at h1 h2
  simp only [decide_eq_false_iff_not] at h1 h2
  obtain ⟨⟨a, ha⟩, ⟨b, hb⟩⟩ := x
  obtain ⟨⟨c, hc⟩, ⟨d, hd⟩⟩ := y
  simp only at h1 h2
  obtain rfl : a = c := by omega
  obtain rfl : b = d := by omega
  rfl
def srtG (l : List FG) : List FG := l.mergeSort fun x y => !(ltOf cfG) y x
theorem srtG_perm {a b : List FG} (h : a.Perm b) : srtG a = srtG b := by
  unfold srtG
  have tr : ∀ (x y z : FG), (!(ltOf cfG) y x) = true → (!(ltOf cfG) z y) = true → (!(ltOf cfG) z x) = true := by
    intro x y z h1 h2
    rw [ltGf] at *
    simp at *
    omega
  have to : ∀ (x y : FG), ((!(ltOf cfG) y x) || (!(ltOf cfG) x y)) = true := by
    intro x y
    rw [ltGf, ltGf]
    simp
    omega
  refine List.Perm.eq_of_pairwise (le := fun x y => (!(ltOf cfG) y x) = true) (fun x y _ _ h1 h2 => ?_) (List.pairwise_mergeSort tr to a) (List.pairwise_mergeSort tr to b) (((List.mergeSort_perm a _).trans h).trans (List.mergeSort_perm b _).symm)
  exact totG x y (by simpa using h2) (by simpa using h1)
theorem srtG_len (l : List FG) : (srtG l).length = l.length := (List.mergeSort_perm l _).length_eq

set_option maxHeartbeats 2000000 in
theorem gorder_any (a b c d : Nat) (ha : a < 10) (hb : b < 1200) (hc : c < 10) (hd : d < 1200) (W : World) :
    Calls Tryz.prog 23 #[.agg #[.int .i64 a, .int .i64 b], .agg #[.int .i64 c, .int .i64 d]] W fun e w' => e = .returned (.int .i64 (if a = c then (b : Int) - d else (a : Int) - c)) ∧ ∃ q os', w' = grow (W.drewN q) os' := by
  have h1 := blk_cells (blk_alloc (blk_new W (.cells #[.int .i64 a, .int .i64 b] 62)) (.cells #[.int .i64 c, .int .i64 d] 62))
  have h2 : ∀ o, ((W.alloc (.cells #[.int .i64 a, .int .i64 b] 62)).alloc (.cells #[.int .i64 c, .int .i64 d] 62)).cell? ⟨W.heap.size + 1, o, none⟩ = #[.int .i64 c, .int .i64 d][o]? := by
    have := blk_cells (blk_new (W.alloc (.cells #[.int .i64 a, .int .i64 b] 62)) (.cells #[.int .i64 c, .int .i64 d] 62))
    rw [World.size_alloc] at this
    exact this
  have hw : IntKind.i64.wrap ((a : Int) - c) = (a : Int) - c := wrap_is (by omega) (by omega)
  have hw2 : IntKind.i64.wrap ((b : Int) - d) = (b : Int) - d := wrap_is (by omega) (by omega)
  by_cases hac : a = c
  · have hac' : (a : Int) = c := by omega
    rw [if_pos hac]
    subst hac
    clear hac'
    go_enter Tryz.func23, Tryz.ntmps23
    go_wp2_with fail
    go_ret
    exact ⟨rfl, 0, _, by rw [alloc_eq_grow, alloc_eq_grow, grow_grow]; rfl⟩
  · have hac' : ¬ (a : Int) = c := by omega
    have hac2 : ((a : Int) != c) = true := by simpa using hac'
    rw [if_neg hac]
    clear hac
    go_enter Tryz.func23, Tryz.ntmps23
    go_wp2_with fail
    go_ret
    exact ⟨rfl, 0, _, by rw [alloc_eq_grow, alloc_eq_grow, grow_grow]; rfl⟩
theorem cmpG (blk off size : Nat) (w : World) : CmpLays Tryz.prog 23 #[] encG 2 cfG blk off size w :=
  fun _ _ _ _ x y => gorder_any x.1.val x.2.val y.1.val y.2.val x.1.isLt x.2.isLt y.1.isLt y.2.isLt _
theorem flatG_at : ∀ (l : List FG) (t : Nat), t < l.length * 2 → (l.flatMap encG)[t]? = some ((encG (l.toArray[t / 2]!))[t % 2]!)
  | [], t, h => by simp at h
  | x :: r, 0, h => rfl
  | x :: r, 1, h => rfl
  | x :: r, t + 2, h => by
    have ih := flatG_at r t (by simp at h; omega)
    have e1 : (t + 2) / 2 = t / 2 + 1 := by omega
    have e2 : (t + 2) % 2 = t % 2 := by omega
    rw [List.flatMap_cons, e1, e2]
    have : (encG x ++ r.flatMap encG)[t + 2]? = (r.flatMap encG)[t]? := by simp [encG]
    rw [this, ih]
    simp
/-- the row, sorted: what it holds, and that nothing else has turned -/
theorem sortG_any (g cap : Nat) (l : List FG) (w : World) {cur : Array Value} (hg : w.heap[g]? = some (.cells cur 62 (0, 0))) (hc : ∀ (j : Nat) (v : Value), (l.flatMap encG)[j]? = some v → cur[j]? = some v) (hl : l.length ≤ 1000) :
    Calls Tryz.prog 68 #[.slice (some ⟨g, 0, none⟩) l.length cap, .func (.func 23) #[] #[]] w fun e w' => e = .returned (.tuple #[]) ∧ But (fun k => k = g) w w' ∧ ∀ (j : Nat) (v : Value), ((srtG l).flatMap encG)[j]? = some v → w'.cell? ⟨g, j, none⟩ = some v := by
  have hlt := blk_lt hg
  have eg : ∀ args w, (callFunc 23 args).run Tryz.prog w = .ok (.enter 23 args) w := enters_of Tryz.func23 (by kernel_rfl) rfl
  have hH : HoldsK encG 2 w g 0 l.toArray := by
    intro t ht
    rw [size_flatK] at ht
    have h1 := flatG_at l t (by simpa using ht)
    refine ⟨?_, blk_frz hg _⟩
    rw [blk_cells hg, Nat.zero_add, hc _ _ h1, get_flatK _ _ _ t ht]
    rfl
  have hcon := AnyQ.slices_SortFunc_total laySortG 2 Tryz.isAgg62 Tryz.sizeOf62 encG (fun _ => rfl) (fun x v hv => by simp [encG] at hv; rcases hv with rfl | rfl <;> rfl) cfG swoG 23 #[] g 0 cap l.toArray w eg (cmpG _ _ _ _) hH hlt (by simp; omega) totG
  change Calls Tryz.prog 68 _ _ _ at hcon
  refine hcon.mono ?_
  rintro e w' ⟨rfl, n, os, rfl⟩
  have hs : ((l.toArray.toList.mergeSort fun x y => !(ltOf cfG) y x).toArray).size = l.toArray.size := by
    have := srtG_len l
    unfold srtG at this
    simp only [List.size_toArray]
    exact this
  refine ⟨rfl, ⟨rfl, rfl, rfl, size_sortWorldK_c encG 2 w g 0 _ _ _, fun k hk hne => ?_⟩, fun j v hj => ?_⟩
  · unfold sortWorldK putRowK putRow mapBlock grow
    show ((w.heap.modify g _) ++ os)[k]? = _
    rw [Array.getElem?_append_left (by simpa using hk), Array.getElem?_modify, if_neg (fun e => hne e.symm)]
  · have hjl : j < (srtG l).length * 2 := by
      have := (List.getElem?_eq_some_iff.1 hj).1
      have hfl : ∀ l : List FG, (l.flatMap encG).length = l.length * 2 := fun l => by
        induction l with
        | nil => rfl
        | cons x r ih => rw [List.flatMap_cons, List.length_append, ih, List.length_cons]; simp [encG]; omega
      rwa [hfl] at this
    have hh := holdsK_sortWorldK_c encG 2 w g 0 l.toArray (srtG l).toArray n os hH hlt (by simp [srtG]) j (by rw [size_flatK]; simpa using hjl)
    have h1 := hh.1
    rw [get_flatK _ _ _ j (by simp; exact hjl), Nat.zero_add] at h1
    rw [flatG_at _ _ hjl] at hj
    exact h1.trans hj
def toG (p : Int × Int) : FG := (Fin.ofNat 10 p.1.toNat, Fin.ofNat 1200 p.2.toNat)
theorem toG_zG (x : FG) : toG (zG x) = x := by
  obtain ⟨⟨a, ha⟩, ⟨b, hb⟩⟩ := x
  simp [toG, zG, Fin.ofNat, Nat.mod_eq_of_lt ha, Nat.mod_eq_of_lt hb]
set_option maxRecDepth 100000 in
set_option maxHeartbeats 1000000 in
theorem keysP_nil (n : Nat) (l Bm : Nat) (J : List (Int × Int) → World → Prop) (W : World) (hJ : AbidesFrom W.heap.size J)
    (hm : W.cell? ⟨Bm, 0, none⟩ = some (.map none)) (h0 : J [] W) :
    CallsIn Fence.wide n Tryz.prog 69 #[.func (.yield l) #[] #[], .pointer (some ⟨Bm, 0, none⟩)] W fun e W' => (∃ v, e = .returned v) ∧ ∃ ss : List (Int × Int), ss.Perm [] ∧ J ss W' := by
  refine callsIn_of_wp Tryz.func69 rfl trivial ?_ rfl
  simp only [Tryz.ntmps69, List.size_toArray, List.length_cons, List.length_nil, Nat.reduceAdd, Nat.reduceSub, Array.replicate_succ, Array.replicate_zero, List.push_toArray, List.append_toArray, List.nil_append, List.cons_append]
  have hrg := run_range_nilMap (P := Tryz.prog) W 25 _ _ Tryz.underlying25
  have hnx : ∀ ty, (Instr.next (.pointer (some ⟨W.heap.size, 0, none⟩)) false ty).run Tryz.prog (W.alloc (.mapIter none 0 #[] 0)) = _ := fun ty => run_next_nilMap _ ty 0 0 #[]
  gi_wp2
  refine wpIn_loop_rounds 1 ?_
  rw [roundsIn_succ]
  gi_wp2
  go_end0
  exact ⟨⟨_, rfl⟩, [], List.Perm.refl _, hJ [] W _ none h0 (World.grownBy_alloc W _ none) (fun r e => by cases e)⟩
theorem keysG_gives (Bm : Nat) (r : Option Nat) (lst : Gs) (w : World) (hBm : Bm < w.heap.size) (hm : w.cell? ⟨Bm, 0, none⟩ = some (.map r)) (hM : (r = none ∧ lst = []) ∨ ∃ b, r = some b ∧ MapIs mPlace (Value.int .i64) w b lst) :
    SeqGives Fence.wide 1 Tryz.prog 69 #[.pointer (some ⟨Bm, 0, none⟩)] encP (fun ss => ss.Perm (lst.map (·.1))) lst.length w := by
  rcases hM with ⟨rfl, rfl⟩ | ⟨b, rfl, hM⟩
  · exact fun l J W hW hJ _ h0 => keysP_nil 1 l Bm J W hJ ((hW.cell (p := ⟨Bm, 0, none⟩) hBm).trans hm) h0
  · exact keys_gives 1 (Nat.le_refl _) Bm b lst w hBm hm hM
def SgPost (w : World) (L : List FG) (e : Ending) (w' : World) : Prop := ∃ a cap, e = .returned (.slice a L.length cap) ∧ Sl tPlace w' (fun _ => True) a ((srtG L).map zG) ∧ Below w.heap.size w w'
theorem small64G (n : Nat) (h : n < 1200) : I64 (n : Int) := by
  unfold I64 Lit.wf
  simp [IntKind.min, IntKind.max, IntKind.bits, IntKind.signed]
  omega
theorem celP_enc : ∀ l : List FG, celP (l.map zG) = l.flatMap encG
  | [] => rfl
  | x :: r => by
    have := celP_enc r
    unfold celP at this ⊢
    rw [List.map_cons, List.flatMap_cons, List.flatMap_cons, this]
    rfl

set_option maxRecDepth 100000 in
set_option maxHeartbeats 4000000 in
theorem sortedG_any (Bm : Nat) (r : Option Nat) (lst : Gs) (L : List FG) (hL : lst.map (·.1) = L.map zG) (w : World) (hBm : Bm < w.heap.size) (hm : w.cell? ⟨Bm, 0, none⟩ = some (.map r)) (hM : (r = none ∧ lst = []) ∨ ∃ b, r = some b ∧ MapIs mPlace (Value.int .i64) w b lst) (hl : lst.length ≤ 1000) :
    Calls Tryz.prog 21 #[.func (.func 69) #[] #[.pointer (some ⟨Bm, 0, none⟩)], .func (.func 23) #[] #[]] w (SgPost w L) := by
  have c1 := (callsIn_wide (n := 3)).1 (collect_in 3 (Nat.le_refl _) 69 #[.pointer (some ⟨Bm, 0, none⟩)] (enters_of Tryz.func69 (by kernel_rfl) rfl) (fun ss => ss.Perm (lst.map (·.1))) lst.length (by unfold maxLen; omega) (by omega) w (keysG_gives Bm r lst w hBm hm hM))
  have hLl : L.length = lst.length := by have := congrArg List.length hL; simpa using this.symm
  go_enter Tryz.func21, Tryz.ntmps21
  go_wp2_with fail
  refine c1.mono ?_
  rintro e w1 ⟨v, ss, rfl, hp, hrow, hnil, hb⟩
  rw [hL] at hp
  have hp2 : (ss.map toG).Perm L := by
    have := hp.map toG
    rw [List.map_map] at this
    have e : L.map (toG ∘ zG) = L := by
      rw [show toG ∘ zG = id from funext toG_zG, List.map_id]
    rwa [e] at this
  have hss : (ss.map toG).map zG = ss := by
    rw [List.map_map]
    refine (List.map_congr_left (fun x hx => ?_)).trans (List.map_id ss)
    obtain ⟨y, _, rfl⟩ := List.mem_map.1 (hp.mem_iff.1 hx)
    show zG (toG (zG y)) = id (zG y)
    rw [toG_zG]
    rfl
  have hsl : ss.length = L.length := by have := hp.length_eq; simpa using this
  obtain ⟨L2, hL2⟩ : ∃ L2, ss.map toG = L2 := ⟨_, rfl⟩
  rw [hL2] at hp2 hss
  have hl2 : L2.length = L.length := hp2.length_eq
  rw [← hss, celP_enc] at hrow
  rw [hss, hsl] at hrow
  have hseq := srtG_perm hp2
  rcases hrow.2 with ⟨rfl, h0⟩ | ⟨g, cap, cur, rfl, hbase, hgb, hr1, hr2, hr3, hr4⟩
  · have hL0 : L = [] := List.length_eq_zero_iff.1 h0
    subst hL0
    have HB := Lib.hid hb
    clear hb hrow hnil c1 hm hM hp
    go_wp2_with fail
    have hnone := AnyF.slices_SortFunc_none (L := laySortG) (p := none) (cap := 0) (fv := .func (.func 23) #[] #[]) (w := w1)
    change Calls Tryz.prog 68 _ _ _ at hnone
    refine hnone.mono ?_
    rintro e w' ⟨rfl, rfl⟩
    go_wp2_with fail
    go_ret
    exact ⟨none, 0, rfl, fun i x hx => by simp [srtG] at hx, HB.out⟩
  · have hcc : ∀ j u, (L2.flatMap encG)[j]? = some u → cur[j]? = some u := fun j u hj => by
      rw [← hr4, List.getElem?_take] at hj
      split at hj
      · simpa using hj
      · cases hj
    have HS := Lib.hid (sortG_any g cap L2 w1 hgb hcc (by omega))
    rw [hl2] at HS
    have HB := Lib.hid hb
    have hgl := blk_lt hgb
    clear hb hrow hnil c1 hm hM hp hcc hr4 hgb hLl hl2 hsl hL
    go_wp2_with fail
    refine HS.out.mono ?_
    rintro e w2 ⟨rfl, hbu, hcells⟩
    have HBB := Lib.hid (But.toBelow HB.out hbu (fun k hk => by rw [hk]; exact hbase) HB.out.size)
    have HCC := Lib.hid hcells
    have hsz := hbu.size
    clear hbu hcells
    go_wp2_with fail
    go_ret
    refine ⟨some ⟨g, 0, none⟩, cap, rfl, fun i x hx => ?_, HBB.out⟩
    rw [List.getElem?_map] at hx
    obtain ⟨y, hy, rfl⟩ := Option.map_eq_some_iff.1 hx
    rw [← hseq] at hy
    have hil := (List.getElem?_eq_some_iff.1 hy).1
    refine ⟨_, encG y, rfl, trivial, by show g < w2.heap.size; omega, fun j u hj => ?_, place_mk _ (small64G _ (Nat.lt_trans y.1.isLt (by decide))) (small64G _ y.2.isLt)⟩
    rw [show tPlace.n = 2 from rfl, Go.Addr.add_add]
    have e1 : (⟨g, 0, none⟩ : Addr).add (i * 2 + j) = ⟨g, i * 2 + j, none⟩ := add_plain _ _
    rw [e1]
    refine HCC.out _ _ ?_
    have hj2 : j < 2 := (List.getElem?_eq_some_iff.1 hj).1
    rw [flatG_at _ _ (by omega), show (i * 2 + j) / 2 = i by omega, show (i * 2 + j) % 2 = j by omega]
    have hyi : (srtG L2).toArray[i]! = y := by
      have : (srtG L2).toArray[i]? = some y := by simpa using hy
      rw [getElem!_def, this]
    rw [hyi, getElem!_def, hj]
end Go.Proofs.YtacemlbfifhllaaGreat
