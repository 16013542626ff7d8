/- slices.Sorted of maps.Keys at whole numbers. -/
import Derived.Test.YtgggpaacagbmcaaGreatX13GroupInner
import Derived.Test.YtgggpaacagbmcaaGreatX04GroupInner
import Derived.Shelf.AbstractIn
import Derived.Shelf.SlIterI.Keys
import Derived.Shelf.SlIterI.Collect
import Derived.Shelf.SlIterI.Sorted
import Derived.Shelf.SortM.Plain
import Derived.Shelf.SortM.SortNone
import Derived.OpenShut
set_option linter.unusedVariables false
set_option linter.unusedSimpArgs false
namespace Go.Proofs.YtgggpaacagbmcaaGreat
open Go.RowKit Go.Maps Go.Sort Go.Shelf Go.Proofs

def laySorted_ren : Go.Shelf.Ren := ⟨fun | 6 => 133 | 8 => 159 | 9 => 160 | 11 => 184 | 13 => 151 | 12 => 185 | 23 => 174 | 24 => 175 | 14 => 196 | 15 => 197 | 16 => 198 | 17 => 199 | 18 => 200 | 19 => 201 | 20 => 202 | 21 => 203 | 22 => 204 | 25 => 207 | 26 => 188 | 27 => 189 | 28 => 208 | 29 => 209 | 30 => 210 | 31 => 211 | n => n, fun | 26 => 3 | 28 => 206 | 24 => 94 | 0 => 0 | 3 => 3 | 37 => 229 | 48 => 256 | 50 => 210 | 4 => 4 | 40 => 250 | 39 => 249 | 45 => 234 | 5 => 5 | 9 => 9 | 51 => 266 | 55 => 155 | 57 => 278 | 58 => 279 | 33 => 55 | n => n, fun | n => n⟩
theorem laySorted : Go.Proofs.SlLaysZI.n6 Tryz.prog laySorted_ren := {
  mixed := by kernel_rfl
  f6 := ⟨Tryz.f133.name, by decide, Tryz.func133.trans (congrArg some (by kernel_rfl))⟩
  f8 := ⟨Tryz.f159.name, by decide, Tryz.func159.trans (congrArg some (by kernel_rfl))⟩
  f11 := ⟨Tryz.f184.name, by decide, Tryz.func184.trans (congrArg some (by kernel_rfl))⟩
  t0 := Tryz.underlying0
  a0 := Tryz.isAgg0
  z0 := Tryz.sizeOf0
  v0 := Tryz.zeroValue0
  t24 := Tryz.underlying94
  a24 := Tryz.isAgg94
  z24 := Tryz.sizeOf94
  v24 := Tryz.zeroValue94
  t26 := Tryz.underlying3
  a26 := Tryz.isAgg3
  z26 := Tryz.sizeOf3
  v26 := Tryz.zeroValue3
  t28 := Tryz.underlying206
  a28 := Tryz.isAgg206
  z28 := Tryz.sizeOf206
  v28 := Tryz.zeroValue206
  i26 := by kernel_rfl }
def laySort_ren : Go.Shelf.Ren := ⟨fun | 5 => 160 | 8 => 151 | 7 => 185 | 19 => 174 | 20 => 175 | 10 => 196 | 11 => 197 | 12 => 198 | 13 => 199 | 14 => 200 | 15 => 201 | 16 => 202 | 17 => 203 | 18 => 204 | 30 => 207 | 31 => 188 | 32 => 189 | 33 => 208 | 34 => 209 | 35 => 210 | 40 => 211 | n => n, fun | 23 => 94 | 25 => 3 | 3 => 3 | 32 => 229 | 22 => 94 | 0 => 0 | 44 => 256 | 46 => 210 | 4 => 4 | 36 => 250 | 35 => 249 | 41 => 234 | 5 => 5 | 9 => 9 | 53 => 266 | 57 => 155 | 63 => 278 | 64 => 279 | n => n, fun | n => n⟩
theorem laySort : Go.Proofs.SlLaysM.n5 Tryz.prog laySort_ren := {
  mixed := by kernel_rfl
  f5 := ⟨Tryz.f160.name, by decide, Tryz.func160.trans (congrArg some (by kernel_rfl))⟩
  f7 := ⟨Tryz.f185.name, by decide, Tryz.func185.trans (congrArg some (by kernel_rfl))⟩
  f8 := Tryz.func151.trans (congrArg some (by kernel_rfl))
  f10 := ⟨Tryz.f196.name, by decide, Tryz.func196.trans (congrArg some (by kernel_rfl))⟩
  f11 := ⟨Tryz.f197.name, by decide, Tryz.func197.trans (congrArg some (by kernel_rfl))⟩
  f12 := ⟨Tryz.f198.name, by decide, Tryz.func198.trans (congrArg some (by kernel_rfl))⟩
  f13 := ⟨Tryz.f199.name, by decide, Tryz.func199.trans (congrArg some (by kernel_rfl))⟩
  f14 := ⟨Tryz.f200.name, by decide, Tryz.func200.trans (congrArg some (by kernel_rfl))⟩
  f15 := ⟨Tryz.f201.name, by decide, Tryz.func201.trans (congrArg some (by kernel_rfl))⟩
  f16 := ⟨Tryz.f202.name, by decide, Tryz.func202.trans (congrArg some (by kernel_rfl))⟩
  f17 := ⟨Tryz.f203.name, by decide, Tryz.func203.trans (congrArg some (by kernel_rfl))⟩
  f18 := ⟨Tryz.f204.name, by decide, Tryz.func204.trans (congrArg some (by kernel_rfl))⟩
  f19 := Tryz.func174.trans (congrArg some (by kernel_rfl))
  f20 := Tryz.func175.trans (congrArg some (by kernel_rfl))
  f30 := ⟨Tryz.f207.name, by decide, Tryz.func207.trans (congrArg some (by kernel_rfl))⟩
  f31 := Tryz.func188.trans (congrArg some (by kernel_rfl))
  f32 := Tryz.func189.trans (congrArg some (by kernel_rfl))
  f33 := ⟨Tryz.f208.name, by decide, Tryz.func208.trans (congrArg some (by kernel_rfl))⟩
  f34 := ⟨Tryz.f209.name, by decide, Tryz.func209.trans (congrArg some (by kernel_rfl))⟩
  f35 := ⟨Tryz.f210.name, by decide, Tryz.func210.trans (congrArg some (by kernel_rfl))⟩
  f40 := ⟨Tryz.f211.name, by decide, Tryz.func211.trans (congrArg some (by kernel_rfl))⟩
  t0 := Tryz.underlying0
  a0 := Tryz.isAgg0
  z0 := Tryz.sizeOf0
  v0 := Tryz.zeroValue0
  t3 := Tryz.underlying3
  a3 := Tryz.isAgg3
  z3 := Tryz.sizeOf3
  v3 := Tryz.zeroValue3
  t4 := Tryz.underlying4
  a4 := Tryz.isAgg4
  z4 := Tryz.sizeOf4
  v4 := Tryz.zeroValue4
  t5 := Tryz.underlying5
  a5 := Tryz.isAgg5
  z5 := Tryz.sizeOf5
  v5 := Tryz.zeroValue5
  t9 := Tryz.underlying9
  a9 := Tryz.isAgg9
  z9 := Tryz.sizeOf9
  v9 := Tryz.zeroValue9
  t22 := Tryz.underlying94
  a22 := Tryz.isAgg94
  z22 := Tryz.sizeOf94
  v22 := Tryz.zeroValue94
  t23 := Tryz.underlying94
  a23 := Tryz.isAgg94
  z23 := Tryz.sizeOf94
  v23 := Tryz.zeroValue94
  t25 := Tryz.underlying3
  a25 := Tryz.isAgg3
  z25 := Tryz.sizeOf3
  v25 := Tryz.zeroValue3
  t32 := Tryz.underlying229
  a32 := Tryz.isAgg229
  z32 := Tryz.sizeOf229
  v32 := Tryz.zeroValue229
  t35 := Tryz.underlying249
  a35 := Tryz.isAgg249
  z35 := Tryz.sizeOf249
  v35 := Tryz.zeroValue249
  t36 := Tryz.underlying250
  a36 := Tryz.isAgg250
  z36 := Tryz.sizeOf250
  v36 := Tryz.zeroValue250
  t41 := Tryz.underlying234
  a41 := Tryz.isAgg234
  z41 := Tryz.sizeOf234
  v41 := Tryz.zeroValue234
  t44 := Tryz.underlying256
  a44 := Tryz.isAgg256
  z44 := Tryz.sizeOf256
  v44 := Tryz.zeroValue256
  t46 := Tryz.underlying210
  a46 := Tryz.isAgg210
  z46 := Tryz.sizeOf210
  v46 := Tryz.zeroValue210
  t53 := Tryz.underlying266
  a53 := Tryz.isAgg266
  z53 := Tryz.sizeOf266
  v53 := Tryz.zeroValue266
  t57 := Tryz.underlying155
  a57 := Tryz.isAgg155
  z57 := Tryz.sizeOf155
  v57 := Tryz.zeroValue155
  t63 := Tryz.underlying278
  a63 := Tryz.isAgg278
  z63 := Tryz.sizeOf278
  v63 := Tryz.zeroValue278
  t64 := Tryz.underlying279
  a64 := Tryz.isAgg279
  z64 := Tryz.sizeOf279
  v64 := Tryz.zeroValue279 }

theorem sortsI (m : Nat) : AnyZI.SortsIn Tryz.prog laySorted_ren Fence.wide m :=
  ⟨fun blk off cap ss W hH hblk hsz => callsIn_wide.2 (AnyM.slices_Sort_int laySort blk off cap ss W hH hblk hsz),
   fun p cap W => callsIn_wide.2 (AnyM.slices_Sort_int_none laySort p cap W)⟩

def srt (l : List Int) : List Int := l.mergeSort (fun x y => decide (x ≤ y))
theorem srt_perm {a b : List Int} (h : a.Perm b) : srt a = srt b := by
  unfold srt
  have tr : ∀ (x y z : Int), decide (x ≤ y) = true → decide (y ≤ z) = true → decide (x ≤ z) = true := by
    intro x y z h1 h2
    simp at *
    omega
  have to : ∀ (x y : Int), (decide (x ≤ y) || decide (y ≤ x)) = true := by
    intro x y
    simp
    omega
  refine List.Perm.eq_of_pairwise (le := fun a b => decide (a ≤ b) = true) (fun a b _ _ h1 h2 => ?_) (List.pairwise_mergeSort tr to a) (List.pairwise_mergeSort tr to b) (((List.mergeSort_perm a _).trans h).trans (List.mergeSort_perm b _).symm)
  simp at h1 h2
  omega
theorem srt_mem {l : List Int} {x : Int} : x ∈ srt l ↔ x ∈ l := (List.mergeSort_perm l _).mem_iff
theorem srt_len (l : List Int) : (srt l).length = l.length := (List.mergeSort_perm l _).length_eq

theorem own_ints {w : World} {base : Nat} {v : Value} {ks : List Int} (h : w.ownsRow base 3 1 v ks.length (ks.map encZ)) (hk : ∀ k ∈ ks, I64 k) : OwnL tInt w base v ks := by
  refine ⟨ks.map fun k => [encZ k], ?_, by simp, ?_, ?_⟩
  · have flat1 : ∀ (l : List Int), (l.map fun k => [encZ k]).flatten = l.map encZ := by
      intro l
      induction l with
      | nil => rfl
      | cons x r ih => simp [ih]
    rw [flat1]
    exact h
  · intro c hc
    obtain ⟨k, _, rfl⟩ := List.mem_map.1 hc
    rfl
  · intro i c x hi hx
    rw [List.getElem?_map, hx] at hi
    simp at hi
    subst hi
    exact ⟨rfl, hk x (List.mem_of_getElem? hx)⟩

def SrtPost (w : World) (keys : List Int) (e : Ending) (w' : World) : Prop := ∃ v, e = .returned v ∧ OwnL tInt w' w.heap.size v (srt keys) ∧ Below w.heap.size w w'
theorem sorted_is (g : Nat) (lb : Array Value) (eg : ∀ args w, (callFunc g args).run Tryz.prog w = .ok (.enter g args) w) (keys : List Int) (hk : ∀ k ∈ keys, I64 k) (hl : keys.length ≤ 1000000) (w : World)
    (hseq : SeqGives Fence.wide 2 Tryz.prog g lb encZ (fun ss => ss.Perm keys) keys.length w) :
    Calls Tryz.prog 133 #[.func (.func g) #[] lb] w (SrtPost w keys) := by
  have cS := AnyZI.sorted_in laySorted Fence.wide 5 trivial trivial trivial trivial rfl (by omega) (sortsI _) (enters_of Tryz.func160 (by kernel_rfl) rfl) g lb trivial eg _ _ (by unfold maxLen; omega) (by omega) _ hseq
  change CallsIn _ _ Tryz.prog 133 _ _ _ at cS
  refine ((callsIn_wide (n := 5)).1 cS).mono ?_
  rintro e w' ⟨v, ss, rfl, hS, hrow, hnil, hb⟩
  refine ⟨v, rfl, own_ints ?_ ?_, hb⟩
  · rw [srt_len, ← hS.length_eq, ← srt_perm hS]
    exact hrow
  · intro k hk'
    exact hk k (srt_mem.1 hk')

end Go.Proofs.YtgggpaacagbmcaaGreat


/- trial: tell. -/
set_option linter.unusedVariables false
set_option linter.unusedSimpArgs false
namespace Go.Proofs.YtgggpaacagbmcaaGreat
open Go.RowKit Go.Maps

abbrev pairV (x : Int × Int) : List Value := [.int .i64 x.1, .int .i64 x.2]
theorem two_cells {cs : List Value} (h : cs.length = 2) : ∃ c0 c1, cs = [c0, c1] := by
  match cs, h with
  | [c0, c1], _ => exact ⟨c0, c1, rfl⟩
set_option maxRecDepth 100000 in
theorem pair_of {H : Type} {enc : TypeId × Value → H} {w : World} {fuel : Nat} {cs : List Value} {d : DataW H} {ps : List MemPlace}
    (h1 : DataW.trod enc Tryz.prog w 0 (fun _ => true) true fuel 131 cs = some (d, ps)) : ∃ x : Int × Int, cs = pairV x ∧ I64 x.1 ∧ I64 x.2 := by
  obtain ⟨xs, m, _, _, hl, hxl, hel⟩ := DataW.trod_array Tryz.underlying131 h1
  have h1c : Tryz.prog.cellsOf 3 = 1 := by kernel_rfl
  have h2c : Tryz.prog.cellsOf 131 = 2 := by kernel_rfl
  rw [h2c] at hl
  obtain ⟨c0, c1, rfl⟩ := two_cells hl
  have e0 := hel 0 (by omega)
  have e1 := hel 1 (by omega)
  rw [h1c] at e0 e1
  simp only [Nat.zero_mul, Nat.one_mul, List.drop_zero, List.take_succ_cons, List.take_zero, List.drop_succ_cons] at e0 e1
  rw [List.getElem?_eq_getElem (by omega)] at e0 e1
  obtain ⟨x0, hx0, _, w0⟩ := DataW.trod_int Tryz.underlying3 e0
  obtain ⟨x1, hx1, _, w1⟩ := DataW.trod_int Tryz.underlying3 e1
  simp only [List.cons.injEq, and_true] at hx0 hx1
  subst hx0
  subst hx1
  exact ⟨(x0, x1), rfl, w0, w1⟩
def tPair : Ty Tryz.prog 131 (Int × Int) where
  n := 2
  R := fun _ _ cs x => cs = pairV x ∧ I64 x.1 ∧ I64 x.2
  hn := by kernel_rfl
  len := by rintro _ _ _ _ ⟨rfl, _⟩; rfl
  keep := fun _ h => h
  mono := fun _ h => h
  of := fun h1 _ => pair_of h1
theorem pair_free (w : World) (F G : Nat → Prop) (c : List Value) (x : Int × Int) (h : tPair.R w F c x) : tPair.R w G c x := h
theorem pair_one (w : World) (F : Nat → Prop) (c : List Value) (x : Int × Int) (h : tPair.R w F c x) : ∀ u ∈ c, u.oneCell' = true := by
  obtain ⟨rfl, _⟩ := h
  simp [Value.oneCell']
theorem infoPair : (Tryz.prog.info? 131).map (fun i => (i.zero, i.size, i.bytes)) = some (some (.agg #[.int .i64 0, .int .i64 0]), 2, 16) := by kernel_rfl
theorem pair_at {w : World} {F : Nat → Prop} {a : Option Addr} {l : List (Int × Int)} (h : Sl tPair w F a l) (i : Nat) (hi : i < l.length) :
    ∃ ad, a = some ad ∧ F ad.block ∧ ad.block < w.heap.size ∧ w.cell? (ad.add (i * 2)) = some (.int .i64 l[i].1) ∧ w.cell? ⟨(ad.add (i * 2)).block, (ad.add (i * 2)).off + 1, none⟩ = some (.int .i64 l[i].2) ∧ I64 l[i].1 ∧ I64 l[i].2 := by
  obtain ⟨ad, ces, rfl, hf, hlt, hc, rfl, h1, h2⟩ := h i l[i] (List.getElem?_eq_getElem hi)
  rw [show tPair.n = 2 from rfl] at hc
  refine ⟨ad, rfl, hf, hlt, ?_, ?_, h1, h2⟩
  · have := hc 0 _ rfl
    simpa [Addr.add] using this
  · have := hc 1 _ rfl
    rw [Addr.add] at this
    simpa using this
theorem infoInt : (Tryz.prog.info? 3).map (fun i => (i.zero, i.size, i.bytes)) = some (some (.int .i64 0), 1, 8) := by kernel_rfl
theorem eq_pair (x1 x2 y1 y2 : Int) (w : World) : (Op.equalIn 10000 131 (.agg #[.int .i64 x1, .int .i64 x2]) (.agg #[.int .i64 y1, .int .i64 y2])).run Tryz.prog w = .ok (x1 == y1 && x2 == y2) w := by
  obtain ⟨i0, hi, _⟩ := info_parts infoInt
  have hc : Tryz.prog.cellsOf 3 = 1 := by kernel_rfl
  rw [show (10000 : Nat) = 9999 + 1 from rfl, run_equalIn_array w 9999 _ _ Tryz.underlying131 hi, hc]
  simp only [List.range, List.range.loop, Op.eqItems]
  cases h1 : x1 == y1 <;> cases h2 : x2 == y2 <;> simp [go_sem, h1, h2]
/-- one element of two whole numbers in a block, as append takes it -/
theorem sl_one2 {P : Program} {t : TypeId} (T : Ty P t (Int × Int)) {w : World} {F : Nat → Prop} {b : Nat} {x : Int × Int} (hn : T.n = 2) (hb : w.heap[b]? = some (.cells #[.int .i64 x.1, .int .i64 x.2] t (0, 0))) (hF : F b) (hr : T.R w F (pairV x) x) :
    Sl T w F (some ⟨b, 0, none⟩) [x] := by
  intro i y hi
  cases i with
  | succ i => simp at hi
  | zero =>
    simp at hi
    subst hi
    refine ⟨_, pairV x, rfl, hF, (Array.getElem?_eq_some_iff.1 hb).1, fun k u hu => ?_, hr⟩
    rw [Nat.zero_mul, Go.Addr.add_add, Nat.zero_add]
    have : (⟨b, 0, none⟩ : Addr).add k = ⟨b, k, none⟩ := by unfold Addr.add; split <;> simp_all
    rw [this, cell_of_row w b k _ t (0, 0) hb]
    simpa using hu

def tellK (s : List (Int × Int)) (k : Int) : List (Int × Int) := if at0 s k == 0 then [] else [(k, at0 s k)]
def tellS (s : List (Int × Int)) : List (Int × Int) := (srt (s.map (·.1))).flatMap (tellK s)
theorem flat_succ {α β : Type} (f : α → List β) (l : List α) (n : Nat) (hn : n < l.length) : (l.take (n + 1)).flatMap f = (l.take n).flatMap f ++ f l[n] := by
  rw [List.take_succ_eq_append_getElem hn, List.flatMap_append]
  simp
theorem flat_len1 {α β : Type} (f : α → List β) (hf : ∀ x, (f x).length ≤ 1) : ∀ (l : List α), (l.flatMap f).length ≤ l.length
  | [] => by simp
  | x :: r => by
    rw [List.flatMap_cons, List.length_append, List.length_cons]
    have := flat_len1 f hf r
    have := hf x
    omega
theorem tellK_len (s : List (Int × Int)) (k : Int) : (tellK s k).length ≤ 1 := by
  unfold tellK
  split <;> simp
theorem tellS_len (s : List (Int × Int)) : (tellS s).length ≤ s.length := by
  unfold tellS
  refine Nat.le_trans (flat_len1 _ (tellK_len s) _) ?_
  rw [srt_len, List.length_map]
  exact Nat.le_refl _
theorem at0_val {s : List (Int × Int)} (h : ∀ x ∈ s, I64 x.2) (k : Int) : I64 (at0 s k) := by
  unfold at0 look
  cases hf : s.find? (fun x => x.1 = k) with
  | none => decide
  | some x => exact h x (List.mem_of_find?_eq_some hf)

def TellPost (w : World) (r : List (Int × Int)) (e : Ending) (w' : World) : Prop := ∃ v, e = .returned v ∧ OwnL tPair w' w.heap.size v r ∧ Below w.heap.size w w'

end Go.Proofs.YtgggpaacagbmcaaGreat


/- trial: Balances, Partners. -/
set_option linter.unusedVariables false
set_option linter.unusedSimpArgs false
namespace Go.Proofs.YtgggpaacagbmcaaGreat
open Go.RowKit Go.Maps

def fBal : Flds Tryz.prog [fld "Account" 3 0 0, fld "Amount" 3 1 8] 0 (Int × Int × Unit) :=
  Flds.cons (f := fld "Account" 3 0 0) tInt rfl (Flds.cons (f := fld "Amount" 3 1 8) tInt rfl (Flds.nil _ _))
def tBal : Ty Tryz.prog 62 (Int × Int) := (Ty.struct Tryz.underlying62 fBal (by kernel_rfl)).map (fun x => (x.1, x.2.1))
theorem bal_inv {w : World} {F : Nat → Prop} {cs : List Value} {x : Int × Int} (h : tBal.R w F cs x) : cs = pairV x ∧ I64 x.1 ∧ I64 x.2 := by
  obtain ⟨y, rfl, c1, c2, rfl, ⟨rfl, h1⟩, c3, c4, rfl, ⟨rfl, h2⟩, rfl⟩ := h
  exact ⟨rfl, h1, h2⟩
theorem bal_mk {w : World} {F : Nat → Prop} (x : Int × Int) (h1 : I64 x.1) (h2 : I64 x.2) : tBal.R w F (pairV x) x :=
  ⟨(x.1, x.2, ()), rfl, [_], [_], rfl, ⟨rfl, h1⟩, [_], [], rfl, ⟨rfl, h2⟩, rfl⟩
theorem bal_free (w : World) (F G : Nat → Prop) (c : List Value) (x : Int × Int) (h : tBal.R w F c x) : tBal.R w G c x := by
  obtain ⟨rfl, h1, h2⟩ := bal_inv h
  exact bal_mk x h1 h2
theorem bal_one (w : World) (F : Nat → Prop) (c : List Value) (x : Int × Int) (h : tBal.R w F c x) : ∀ u ∈ c, u.oneCell' = true := by
  obtain ⟨rfl, _⟩ := bal_inv h
  simp [Value.oneCell']
theorem infoBal : (Tryz.prog.info? 62).map (fun i => (i.zero, i.size, i.bytes)) = some (some (.agg #[.int .i64 0, .int .i64 0]), 2, 16) := by kernel_rfl
theorem bal_at {w : World} {F : Nat → Prop} {a : Option Addr} {l : List (Int × Int)} (h : Sl tBal w F a l) (i : Nat) (hi : i < l.length) :
    ∃ ad, a = some ad ∧ F ad.block ∧ ad.block < w.heap.size ∧ w.cell? (ad.add (i * 2)) = some (.int .i64 l[i].1) ∧ w.cell? ⟨(ad.add (i * 2)).block, (ad.add (i * 2)).off + 1, none⟩ = some (.int .i64 l[i].2) ∧ I64 l[i].1 ∧ I64 l[i].2 := by
  obtain ⟨ad, ces, rfl, hf, hlt, hc, hr⟩ := h i l[i] (List.getElem?_eq_getElem hi)
  obtain ⟨rfl, h1, h2⟩ := bal_inv hr
  rw [show tBal.n = 2 from rfl] at hc
  refine ⟨ad, rfl, hf, hlt, ?_, ?_, h1, h2⟩
  · have := hc 0 _ rfl
    simpa [Addr.add] using this
  · have := hc 1 _ rfl
    rw [Addr.add] at this
    simpa using this

/-- journals as they lie in a book: with lines, of which there are few -/
def GoodJ (l : List Jn) : Prop := ∀ x ∈ l, x.lines ≠ [] ∧ x.lines.length ≤ 8
theorem GoodJ.ne {l : List Jn} (h : GoodJ l) : ∀ x ∈ l, x.lines ≠ [] := fun x hx => (h x hx).1
theorem ins_len (s : List (Int × Int)) (k v : Int) : (ins s k v).length ≤ s.length + 1 := by
  induction s with
  | nil => simp [ins]
  | cons x r ih =>
    unfold ins
    split
    · simp
    · simp only [List.length_cons]; omega
theorem sAdd_len (s : List (Int × Int)) (k v : Int) : (sAdd s k v).length ≤ s.length + 1 := ins_len _ _ _
theorem accS_len : ∀ (ls : List Ln) (s : List (Int × Int)), (accS s ls).length ≤ s.length + ls.length
  | [], s => by simp [accS]
  | x :: r, s => by
    have h1 := accS_len r (sAdd s x.acc x.amt)
    have h2 := sAdd_len s x.acc x.amt
    simp only [accS, List.foldl_cons, List.length_cons] at h1 ⊢
    omega
theorem sPar_len (s : List (Int × Int)) (l : Ln) : (sPar s l).length ≤ s.length + 1 := by
  unfold sPar
  split
  · omega
  · exact sAdd_len _ _ _
theorem parS_len : ∀ (ls : List Ln) (s : List (Int × Int)), (parS s ls).length ≤ s.length + ls.length
  | [], s => by simp [parS]
  | x :: r, s => by
    have h1 := parS_len r (sPar s x)
    have h2 := sPar_len s x
    simp only [parS, List.foldl_cons, List.length_cons] at h1 ⊢
    omega
theorem accS_vals : ∀ (ls : List Ln) (s : List (Int × Int)), (∀ x ∈ s, I64 x.2) → ∀ x ∈ accS s ls, I64 x.2
  | [], s, h => h
  | x :: r, s, h => accS_vals r (sAdd s x.acc x.amt) (sAdd_vals h _ _)
theorem sPar_vals {s : List (Int × Int)} (h : ∀ x ∈ s, I64 x.2) (l : Ln) : ∀ x ∈ sPar s l, I64 x.2 := by
  unfold sPar
  split
  · exact h
  · exact sAdd_vals h _ _
theorem parS_vals : ∀ (ls : List Ln) (s : List (Int × Int)), (∀ x ∈ s, I64 x.2) → ∀ x ∈ parS s ls, I64 x.2
  | [], s, h => h
  | x :: r, s, h => parS_vals r (sPar s x) (sPar_vals h x)
theorem flat8 : ∀ {l : List Jn}, GoodJ l → (l.flatMap (·.lines)).length ≤ 8 * l.length
  | [], _ => by simp
  | x :: r, h => by
    have ih := flat8 (l := r) (fun y hy => h y (List.mem_cons_of_mem _ hy))
    have hx := (h x (List.mem_cons_self ..)).2
    rw [List.flatMap_cons, List.length_append, List.length_cons]
    omega
theorem linesOf_len {l : List Jn} (h : GoodJ l) (hl : l.length ≤ 1000) (e f t : Int) : (linesOf l e f t).length ≤ 8000 := by
  unfold linesOf
  have h1 := flat8 (l := l.filter (cnt e f t)) (fun x hx => h x (List.mem_filter.1 hx).1)
  have h2 := List.length_filter_le (cnt e f t) l
  omega

def accR (l : List Jn) (e f t : Int) : List (Int × Int) := tellS (accS [] (linesOf l e f t))
def parR (l : List Jn) (e f t : Int) : List (Int × Int) := tellS (parS [] (linesOf l e f t))
def balT (l : List Jn) (e f t : Int) : List (Int × Int) × Int :=
  if rightB e f t then (if (accR l e f t).all (fun x => fitsB x.2) then (accR l e f t, 0) else ([], 2)) else ([], 1)
def BalPost (w : World) (r : List (Int × Int) × Int) (e : Ending) (w' : World) : Prop := ∃ v, e = .returned (.tuple #[v, .int .i64 r.2]) ∧ OwnL tBal w' w.heap.size v r.1 ∧ Below w.heap.size w w'

theorem mfits_lo (m : Int) (b : Nat) (w : World) (hm : w.heap[b]? = some (.cells #[.int .i64 m] 3 (0, 0))) (hw : (Lit.int .i64 m).wf = true) {x : Bool} (h : fitsB m = x) :
    Calls Tryz.prog 83 #[.slice (some ⟨b, 0, none⟩) 1 1] w fun e w' => e = .returned (.bool x) ∧ Below w.heap.size w w' :=
  (mfits_is m b w hm hw h).mono fun e w' ⟨h1, h2⟩ => ⟨h1, by rw [h2]; exact Below.refl _ _⟩
def parT (l : List Jn) (e f t : Int) : List (Int × Int) × Int := if (balT l e f t).2 == 0 then (parR l e f t, 0) else ([], (balT l e f t).2)
def ParPost (w : World) (r : List (Int × Int) × Int) (e : Ending) (w' : World) : Prop := ∃ v, e = .returned (.tuple #[v, .int .i64 r.2]) ∧ OwnL tPair w' w.heap.size v r.1 ∧ Below w.heap.size w w'

end Go.Proofs.YtgggpaacagbmcaaGreat
