/- slices.Sorted of maps.Keys at whole numbers. -/
import Derived.Test.YtapmedcgfnlchaaGreatX03IncomeMonths
import Derived.Test.YtapmedcgfnlchaaGreatX07IncomeMonths
import Derived.Shelf.AbstractIn
import Derived.Shelf.SlIterI.Keys
import Derived.Shelf.SlIterI.Collect
import Derived.Shelf.SlIterI.Sorted
import Derived.Shelf.SortM.Plain
import Derived.Shelf.SortM.SortNone
set_option linter.unusedVariables false
set_option linter.unusedSimpArgs false
namespace Go.Proofs.YtapmedcgfnlchaaGreat
open Go.RowKit Go.Maps Go.Sort Go.Shelf Go.Proofs

def laySorted_ren : Go.Shelf.Ren := ⟨fun | 6 => 91 | 8 => 105 | 9 => 106 | 11 => 110 | 13 => 112 | 12 => 111 | 23 => 122 | 24 => 123 | 14 => 113 | 15 => 114 | 16 => 115 | 17 => 116 | 18 => 117 | 19 => 118 | 20 => 119 | 21 => 120 | 22 => 121 | 25 => 124 | 26 => 125 | 27 => 126 | 28 => 127 | 29 => 128 | 30 => 129 | 31 => 130 | n => n, fun | 26 => 3 | 28 => 154 | 24 => 32 | 0 => 0 | 3 => 3 | 37 => 162 | 48 => 184 | 50 => 186 | 4 => 4 | 40 => 178 | 39 => 177 | 45 => 90 | 5 => 5 | 9 => 9 | 51 => 187 | 55 => 120 | 57 => 192 | 58 => 193 | 33 => 46 | n => n, fun | n => n⟩
theorem laySorted : Go.Proofs.SlLaysZI.n6 Tryz.prog laySorted_ren := {
  mixed := by kernel_rfl
  f6 := ⟨Tryz.f91.name, by decide, Tryz.func91.trans (congrArg some (by kernel_rfl))⟩
  f8 := ⟨Tryz.f105.name, by decide, Tryz.func105.trans (congrArg some (by kernel_rfl))⟩
  f11 := ⟨Tryz.f110.name, by decide, Tryz.func110.trans (congrArg some (by kernel_rfl))⟩
  t0 := Tryz.underlying0
  a0 := Tryz.isAgg0
  z0 := Tryz.sizeOf0
  v0 := Tryz.zeroValue0
  t24 := Tryz.underlying32
  a24 := Tryz.isAgg32
  z24 := Tryz.sizeOf32
  v24 := Tryz.zeroValue32
  t26 := Tryz.underlying3
  a26 := Tryz.isAgg3
  z26 := Tryz.sizeOf3
  v26 := Tryz.zeroValue3
  t28 := Tryz.underlying154
  a28 := Tryz.isAgg154
  z28 := Tryz.sizeOf154
  v28 := Tryz.zeroValue154
  i26 := by kernel_rfl }
def laySort_ren : Go.Shelf.Ren := ⟨fun | 5 => 106 | 8 => 112 | 7 => 111 | 19 => 122 | 20 => 123 | 10 => 113 | 11 => 114 | 12 => 115 | 13 => 116 | 14 => 117 | 15 => 118 | 16 => 119 | 17 => 120 | 18 => 121 | 30 => 124 | 31 => 125 | 32 => 126 | 33 => 127 | 34 => 128 | 35 => 129 | 40 => 130 | n => n, fun | 23 => 32 | 25 => 3 | 3 => 3 | 32 => 162 | 22 => 32 | 0 => 0 | 44 => 184 | 46 => 186 | 4 => 4 | 36 => 178 | 35 => 177 | 41 => 90 | 5 => 5 | 9 => 9 | 53 => 187 | 57 => 120 | 63 => 192 | 64 => 193 | n => n, fun | n => n⟩
theorem laySort : Go.Proofs.SlLaysM.n5 Tryz.prog laySort_ren := {
  mixed := by kernel_rfl
  f5 := ⟨Tryz.f106.name, by decide, Tryz.func106.trans (congrArg some (by kernel_rfl))⟩
  f7 := ⟨Tryz.f111.name, by decide, Tryz.func111.trans (congrArg some (by kernel_rfl))⟩
  f8 := Tryz.func112.trans (congrArg some (by kernel_rfl))
  f10 := ⟨Tryz.f113.name, by decide, Tryz.func113.trans (congrArg some (by kernel_rfl))⟩
  f11 := ⟨Tryz.f114.name, by decide, Tryz.func114.trans (congrArg some (by kernel_rfl))⟩
  f12 := ⟨Tryz.f115.name, by decide, Tryz.func115.trans (congrArg some (by kernel_rfl))⟩
  f13 := ⟨Tryz.f116.name, by decide, Tryz.func116.trans (congrArg some (by kernel_rfl))⟩
  f14 := ⟨Tryz.f117.name, by decide, Tryz.func117.trans (congrArg some (by kernel_rfl))⟩
  f15 := ⟨Tryz.f118.name, by decide, Tryz.func118.trans (congrArg some (by kernel_rfl))⟩
  f16 := ⟨Tryz.f119.name, by decide, Tryz.func119.trans (congrArg some (by kernel_rfl))⟩
  f17 := ⟨Tryz.f120.name, by decide, Tryz.func120.trans (congrArg some (by kernel_rfl))⟩
  f18 := ⟨Tryz.f121.name, by decide, Tryz.func121.trans (congrArg some (by kernel_rfl))⟩
  f19 := Tryz.func122.trans (congrArg some (by kernel_rfl))
  f20 := Tryz.func123.trans (congrArg some (by kernel_rfl))
  f30 := ⟨Tryz.f124.name, by decide, Tryz.func124.trans (congrArg some (by kernel_rfl))⟩
  f31 := Tryz.func125.trans (congrArg some (by kernel_rfl))
  f32 := Tryz.func126.trans (congrArg some (by kernel_rfl))
  f33 := ⟨Tryz.f127.name, by decide, Tryz.func127.trans (congrArg some (by kernel_rfl))⟩
  f34 := ⟨Tryz.f128.name, by decide, Tryz.func128.trans (congrArg some (by kernel_rfl))⟩
  f35 := ⟨Tryz.f129.name, by decide, Tryz.func129.trans (congrArg some (by kernel_rfl))⟩
  f40 := ⟨Tryz.f130.name, by decide, Tryz.func130.trans (congrArg some (by kernel_rfl))⟩
  t0 := Tryz.underlying0
  a0 := Tryz.isAgg0
  z0 := Tryz.sizeOf0
  v0 := Tryz.zeroValue0
  t3 := Tryz.underlying3
  a3 := Tryz.isAgg3
  z3 := Tryz.sizeOf3
  v3 := Tryz.zeroValue3
  t4 := Tryz.underlying4
  a4 := Tryz.isAgg4
  z4 := Tryz.sizeOf4
  v4 := Tryz.zeroValue4
  t5 := Tryz.underlying5
  a5 := Tryz.isAgg5
  z5 := Tryz.sizeOf5
  v5 := Tryz.zeroValue5
  t9 := Tryz.underlying9
  a9 := Tryz.isAgg9
  z9 := Tryz.sizeOf9
  v9 := Tryz.zeroValue9
  t22 := Tryz.underlying32
  a22 := Tryz.isAgg32
  z22 := Tryz.sizeOf32
  v22 := Tryz.zeroValue32
  t23 := Tryz.underlying32
  a23 := Tryz.isAgg32
  z23 := Tryz.sizeOf32
  v23 := Tryz.zeroValue32
  t25 := Tryz.underlying3
  a25 := Tryz.isAgg3
  z25 := Tryz.sizeOf3
  v25 := Tryz.zeroValue3
  t32 := Tryz.underlying162
  a32 := Tryz.isAgg162
  z32 := Tryz.sizeOf162
  v32 := Tryz.zeroValue162
  t35 := Tryz.underlying177
  a35 := Tryz.isAgg177
  z35 := Tryz.sizeOf177
  v35 := Tryz.zeroValue177
  t36 := Tryz.underlying178
  a36 := Tryz.isAgg178
  z36 := Tryz.sizeOf178
  v36 := Tryz.zeroValue178
  t41 := Tryz.underlying90
  a41 := Tryz.isAgg90
  z41 := Tryz.sizeOf90
  v41 := Tryz.zeroValue90
  t44 := Tryz.underlying184
  a44 := Tryz.isAgg184
  z44 := Tryz.sizeOf184
  v44 := Tryz.zeroValue184
  t46 := Tryz.underlying186
  a46 := Tryz.isAgg186
  z46 := Tryz.sizeOf186
  v46 := Tryz.zeroValue186
  t53 := Tryz.underlying187
  a53 := Tryz.isAgg187
  z53 := Tryz.sizeOf187
  v53 := Tryz.zeroValue187
  t57 := Tryz.underlying120
  a57 := Tryz.isAgg120
  z57 := Tryz.sizeOf120
  v57 := Tryz.zeroValue120
  t63 := Tryz.underlying192
  a63 := Tryz.isAgg192
  z63 := Tryz.sizeOf192
  v63 := Tryz.zeroValue192
  t64 := Tryz.underlying193
  a64 := Tryz.isAgg193
  z64 := Tryz.sizeOf193
  v64 := Tryz.zeroValue193 }

theorem sortsI (m : Nat) : AnyZI.SortsIn Tryz.prog laySorted_ren Fence.wide m :=
  ⟨fun blk off cap ss W hH hblk hsz => callsIn_wide.2 (AnyM.slices_Sort_int laySort blk off cap ss W hH hblk hsz),
   fun p cap W => callsIn_wide.2 (AnyM.slices_Sort_int_none laySort p cap W)⟩

def srt (l : List Int) : List Int := l.mergeSort (fun x y => decide (x ≤ y))
theorem srt_perm {a b : List Int} (h : a.Perm b) : srt a = srt b := by
  unfold srt
  have tr : ∀ (x y z : Int), decide (x ≤ y) = true → decide (y ≤ z) = true → decide (x ≤ z) = true := by
    intro x y z h1 h2
    simp at *
    omega
  have to : ∀ (x y : Int), (decide (x ≤ y) || decide (y ≤ x)) = true := by
    intro x y
    simp
    omega
  refine List.Perm.eq_of_pairwise (le := fun a b => decide (a ≤ b) = true) (fun a b _ _ h1 h2 => ?_) (List.pairwise_mergeSort tr to a) (List.pairwise_mergeSort tr to b) (((List.mergeSort_perm a _).trans h).trans (List.mergeSort_perm b _).symm)
  simp at h1 h2
  omega
theorem srt_mem {l : List Int} {x : Int} : x ∈ srt l ↔ x ∈ l := (List.mergeSort_perm l _).mem_iff
theorem srt_len (l : List Int) : (srt l).length = l.length := (List.mergeSort_perm l _).length_eq

theorem own_ints {w : World} {base : Nat} {v : Value} {ks : List Int} (h : w.ownsRow base 3 1 v ks.length (ks.map encZ)) (hk : ∀ k ∈ ks, I64 k) : OwnL tInt w base v ks := by
  refine ⟨ks.map fun k => [encZ k], ?_, by simp, ?_, ?_⟩
  · have flat1 : ∀ (l : List Int), (l.map fun k => [encZ k]).flatten = l.map encZ := by
      intro l
      induction l with
      | nil => rfl
      | cons x r ih => simp [ih]
    rw [flat1]
    exact h
  · intro c hc
    obtain ⟨k, _, rfl⟩ := List.mem_map.1 hc
    rfl
  · intro i c x hi hx
    rw [List.getElem?_map, hx] at hi
    simp at hi
    subst hi
    exact ⟨rfl, hk x (List.mem_of_getElem? hx)⟩

def SrtPost (w : World) (keys : List Int) (e : Ending) (w' : World) : Prop := ∃ v, e = .returned v ∧ OwnL tInt w' w.heap.size v (srt keys) ∧ Below w.heap.size w w'
theorem sorted_is (g : Nat) (lb : Array Value) (eg : ∀ args w, (callFunc g args).run Tryz.prog w = .ok (.enter g args) w) (keys : List Int) (hk : ∀ k ∈ keys, I64 k) (hl : keys.length ≤ 1000000) (w : World)
    (hseq : SeqGives Fence.wide 2 Tryz.prog g lb encZ (fun ss => ss.Perm keys) keys.length w) :
    Calls Tryz.prog 91 #[.func (.func g) #[] lb] w (SrtPost w keys) := by
  have cS := AnyZI.sorted_in laySorted Fence.wide 5 trivial trivial trivial trivial rfl (by omega) (sortsI _) (enters_of Tryz.func106 (by kernel_rfl) rfl) g lb trivial eg _ _ (by unfold maxLen; omega) (by omega) _ hseq
  change CallsIn _ _ Tryz.prog 91 _ _ _ at cS
  refine ((callsIn_wide (n := 5)).1 cS).mono ?_
  rintro e w' ⟨v, ss, rfl, hS, hrow, hnil, hb⟩
  refine ⟨v, rfl, own_ints ?_ ?_, hb⟩
  · rw [srt_len, ← hS.length_eq, ← srt_perm hS]
    exact hrow
  · intro k hk'
    exact hk k (srt_mem.1 hk')

set_option maxRecDepth 100000 in
set_option maxHeartbeats 2000000 in
theorem keys1S (n : Nat) (hn : 1 ≤ n) (l Bm b : Nat) (lst : List (Int × Int)) (J : List Int → World → Prop)
    (hY : ∀ pre x W, J pre W → pre.length < lst.length → YieldAt Fence.wide (n - 1) Tryz.prog l #[encZ x] W fun e W' => e = .returned (.bool true) ∧ J (pre ++ [x]) W' ∧ KeepsWalks W W')
    (W : World) (hJ : AbidesFrom W.heap.size J) (hm : W.cell? ⟨Bm, 0, none⟩ = some (.map (some b))) (hM : MapIs mInt (Value.int .i64) W b lst) (h0 : J [] W) :
    CallsIn Fence.wide n Tryz.prog 107 #[.func (.yield l) #[] #[], .pointer (some ⟨Bm, 0, none⟩)] W fun e W' => (∃ v, e = .returned v) ∧ ∃ ss : List Int, ss.Perm (lst.map (·.1)) ∧ J ss W' := by
  refine callsIn_of_wp Tryz.func107 rfl trivial ?_ rfl
  simp only [Tryz.ntmps107, List.size_toArray, List.length_cons, List.length_nil, Nat.reduceAdd, Nat.reduceSub, Array.replicate_succ, Array.replicate_zero, List.push_toArray, List.append_toArray, List.nil_append, List.cons_append]
  gi_wp2_with (first
    | (gi_at_range; refine wpIn_range rfl _ 111 rfl 3 Tryz.underlying111 b lst rfl hM ?_; intro w0 hrg0 hg0 hs0)
    | gi_in)
  go_frame
  gi_loopw [3] (fun _ wr => ∃ (ss : List Int), Rng mInt (Value.int .i64) wr b W.heap.size lst ss ∧ J ss wr)
    (fun _ wr => wr.rangeLeft b W.heap.size)
  case atStart =>
    exact ⟨[], hrg0, hJ [] W w0 none h0 hg0 (fun r e => by cases e)⟩
  case round =>
    obtain ⟨ss, hrg, hJs⟩ := hrel
    gi_wp2_with (first
      | (gi_at_next; refine wpIn_next rfl _ rfl b W.heap.size lst ss rfl hrg ?_ ?_)
      | gi_in)
    · intro hp
      gi_wp2
      go_end0
      exact ⟨⟨_, rfl⟩, ss, hp, hJs⟩
    · intro kx v w2 hkv hrg2 hlt hg2 hs2 hen
      have hek : mInt.ek kx = .int .i64 kx := rfl
      rw [hek] at hen ⊢
      have hlen := hrg2.len
      have hJ2 : J ss w2 := hJ ss wr w2 (some W.heap.size) hJs hg2 (fun r e => by cases e; exact ⟨Nat.le_refl _, hrg.iter_walk⟩)
      obtain ⟨fn, tmps, assign, body, hy, hR⟩ := hY ss kx _ hJ2 (by simp at hlen; omega)
      clear hs2
      gi_wp2
      refine hR.mono ?_
      rintro e W3 ⟨rfl, hJ4, hk4⟩
      have hrg4 := hrg2.of_walks hk4
      gi_wp2
      go_roundw
      case rel => exact ⟨ss ++ [kx], hrg4, hJ4⟩
      case measure =>
        have e1 := rangeLeft_walks hk4 hrg2
        rw [e1]
        exact hlt
theorem keysfS (mb : Option Nat) (w : World) :
    Calls Tryz.prog 92 #[.map mb] w fun e w' => e = .returned (.func (.func 107) #[] #[.pointer (some ⟨w.heap.size, 0, none⟩)]) ∧ w' = w.alloc (.cells #[.map mb] 111) := by
  go_enter Tryz.func92, Tryz.ntmps92
  go_wp2_with fail
  go_ret
  exact ⟨rfl, rfl⟩
theorem givesS (n : Nat) (hn : 1 ≤ n) (Bm b : Nat) (lst : List (Int × Int)) (w : World) (hBm : Bm < w.heap.size) (hm : w.cell? ⟨Bm, 0, none⟩ = some (.map (some b))) (hM : MapIs mInt (Value.int .i64) w b lst) :
    SeqGives Fence.wide n Tryz.prog 107 #[.pointer (some ⟨Bm, 0, none⟩)] encZ (fun ss => ss.Perm (lst.map (·.1))) lst.length w := fun l J W hW hJ hY h0 =>
  keys1S n hn l Bm b lst J hY W hJ ((hW.cell (p := ⟨Bm, 0, none⟩) hBm).trans hm) (hM.keep (hW.block b hM.lt)) h0
theorem sortedS (Bm b : Nat) (lst : List (Int × Int)) (w : World) (hBm : Bm < w.heap.size) (hm : w.cell? ⟨Bm, 0, none⟩ = some (.map (some b))) (hM : MapIs mInt (Value.int .i64) w b lst) (hl : lst.length ≤ 1000000) :
    Calls Tryz.prog 91 #[.func (.func 107) #[] #[.pointer (some ⟨Bm, 0, none⟩)]] w (SrtPost w (lst.map (·.1))) :=
  sorted_is 107 #[.pointer (some ⟨Bm, 0, none⟩)] (enters_of Tryz.func107 (by kernel_rfl) rfl) (lst.map (·.1)) (fun k hk => by obtain ⟨x, hx, rfl⟩ := List.mem_map.1 hk; exact hM.oks x hx) (by rw [List.length_map]; exact hl) w (by rw [List.length_map]; exact givesS 2 (by omega) Bm b lst w hBm hm hM)
end Go.Proofs.YtapmedcgfnlchaaGreat
