/- slices.Sorted of maps.Keys at whole numbers. -/
import Derived.Test.YtogikjnfmcfbmaaX04MergeApart
import Derived.Test.YtogikjnfmcfbmaaX09MergeApart
import Derived.Shelf.AbstractIn
import Derived.Shelf.SlIterI.Keys
import Derived.Shelf.SlIterI.Collect
import Derived.Shelf.SlIterI.Sorted
import Derived.Shelf.SortM.Plain
import Derived.Shelf.SortM.SortNone
set_option linter.unusedVariables false
set_option linter.unusedSimpArgs false
namespace Go.Proofs.Ytogikjnfmcfbmaa
open Go.RowKit Go.Maps Go.Sort Go.Shelf Go.Proofs

def laySorted_ren : Go.Shelf.Ren := ⟨fun | 6 => 53 | 8 => 69 | 9 => 70 | 11 => 93 | 13 => 62 | 12 => 94 | 23 => 86 | 24 => 87 | 14 => 105 | 15 => 106 | 16 => 107 | 17 => 108 | 18 => 109 | 19 => 110 | 20 => 111 | 21 => 112 | 22 => 113 | 25 => 117 | 26 => 99 | 27 => 100 | 28 => 118 | 29 => 119 | 30 => 120 | 31 => 121 | n => n, fun | 26 => 3 | 28 => 100 | 24 => 94 | 0 => 0 | 3 => 3 | 37 => 110 | 48 => 128 | 50 => 130 | 4 => 4 | 40 => 122 | 39 => 121 | 45 => 105 | 5 => 5 | 9 => 9 | 51 => 139 | 55 => 143 | 57 => 153 | 58 => 154 | 33 => 81 | n => n, fun | n => n⟩
theorem laySorted : Go.Proofs.SlLaysZI.n6 Try.prog laySorted_ren := {
  mixed := by kernel_rfl
  f6 := ⟨Try.f53.name, by decide, Try.func53.trans (congrArg some (by kernel_rfl))⟩
  f8 := ⟨Try.f69.name, by decide, Try.func69.trans (congrArg some (by kernel_rfl))⟩
  f11 := ⟨Try.f93.name, by decide, Try.func93.trans (congrArg some (by kernel_rfl))⟩
  t0 := Try.underlying0
  a0 := Try.isAgg0
  z0 := Try.sizeOf0
  v0 := Try.zeroValue0
  t24 := Try.underlying94
  a24 := Try.isAgg94
  z24 := Try.sizeOf94
  v24 := Try.zeroValue94
  t26 := Try.underlying3
  a26 := Try.isAgg3
  z26 := Try.sizeOf3
  v26 := Try.zeroValue3
  t28 := Try.underlying100
  a28 := Try.isAgg100
  z28 := Try.sizeOf100
  v28 := Try.zeroValue100
  i26 := by kernel_rfl }
def laySort_ren : Go.Shelf.Ren := ⟨fun | 5 => 70 | 8 => 62 | 7 => 94 | 19 => 86 | 20 => 87 | 10 => 105 | 11 => 106 | 12 => 107 | 13 => 108 | 14 => 109 | 15 => 110 | 16 => 111 | 17 => 112 | 18 => 113 | 30 => 117 | 31 => 99 | 32 => 100 | 33 => 118 | 34 => 119 | 35 => 120 | 40 => 121 | n => n, fun | 23 => 94 | 25 => 3 | 3 => 3 | 32 => 110 | 22 => 94 | 0 => 0 | 44 => 128 | 46 => 130 | 4 => 4 | 36 => 122 | 35 => 121 | 41 => 105 | 5 => 5 | 9 => 9 | 53 => 139 | 57 => 143 | 63 => 153 | 64 => 154 | n => n, fun | n => n⟩
theorem laySort : Go.Proofs.SlLaysM.n5 Try.prog laySort_ren := {
  mixed := by kernel_rfl
  f5 := ⟨Try.f70.name, by decide, Try.func70.trans (congrArg some (by kernel_rfl))⟩
  f7 := ⟨Try.f94.name, by decide, Try.func94.trans (congrArg some (by kernel_rfl))⟩
  f8 := Try.func62.trans (congrArg some (by kernel_rfl))
  f10 := ⟨Try.f105.name, by decide, Try.func105.trans (congrArg some (by kernel_rfl))⟩
  f11 := ⟨Try.f106.name, by decide, Try.func106.trans (congrArg some (by kernel_rfl))⟩
  f12 := ⟨Try.f107.name, by decide, Try.func107.trans (congrArg some (by kernel_rfl))⟩
  f13 := ⟨Try.f108.name, by decide, Try.func108.trans (congrArg some (by kernel_rfl))⟩
  f14 := ⟨Try.f109.name, by decide, Try.func109.trans (congrArg some (by kernel_rfl))⟩
  f15 := ⟨Try.f110.name, by decide, Try.func110.trans (congrArg some (by kernel_rfl))⟩
  f16 := ⟨Try.f111.name, by decide, Try.func111.trans (congrArg some (by kernel_rfl))⟩
  f17 := ⟨Try.f112.name, by decide, Try.func112.trans (congrArg some (by kernel_rfl))⟩
  f18 := ⟨Try.f113.name, by decide, Try.func113.trans (congrArg some (by kernel_rfl))⟩
  f19 := Try.func86.trans (congrArg some (by kernel_rfl))
  f20 := Try.func87.trans (congrArg some (by kernel_rfl))
  f30 := ⟨Try.f117.name, by decide, Try.func117.trans (congrArg some (by kernel_rfl))⟩
  f31 := Try.func99.trans (congrArg some (by kernel_rfl))
  f32 := Try.func100.trans (congrArg some (by kernel_rfl))
  f33 := ⟨Try.f118.name, by decide, Try.func118.trans (congrArg some (by kernel_rfl))⟩
  f34 := ⟨Try.f119.name, by decide, Try.func119.trans (congrArg some (by kernel_rfl))⟩
  f35 := ⟨Try.f120.name, by decide, Try.func120.trans (congrArg some (by kernel_rfl))⟩
  f40 := ⟨Try.f121.name, by decide, Try.func121.trans (congrArg some (by kernel_rfl))⟩
  t0 := Try.underlying0
  a0 := Try.isAgg0
  z0 := Try.sizeOf0
  v0 := Try.zeroValue0
  t3 := Try.underlying3
  a3 := Try.isAgg3
  z3 := Try.sizeOf3
  v3 := Try.zeroValue3
  t4 := Try.underlying4
  a4 := Try.isAgg4
  z4 := Try.sizeOf4
  v4 := Try.zeroValue4
  t5 := Try.underlying5
  a5 := Try.isAgg5
  z5 := Try.sizeOf5
  v5 := Try.zeroValue5
  t9 := Try.underlying9
  a9 := Try.isAgg9
  z9 := Try.sizeOf9
  v9 := Try.zeroValue9
  t22 := Try.underlying94
  a22 := Try.isAgg94
  z22 := Try.sizeOf94
  v22 := Try.zeroValue94
  t23 := Try.underlying94
  a23 := Try.isAgg94
  z23 := Try.sizeOf94
  v23 := Try.zeroValue94
  t25 := Try.underlying3
  a25 := Try.isAgg3
  z25 := Try.sizeOf3
  v25 := Try.zeroValue3
  t32 := Try.underlying110
  a32 := Try.isAgg110
  z32 := Try.sizeOf110
  v32 := Try.zeroValue110
  t35 := Try.underlying121
  a35 := Try.isAgg121
  z35 := Try.sizeOf121
  v35 := Try.zeroValue121
  t36 := Try.underlying122
  a36 := Try.isAgg122
  z36 := Try.sizeOf122
  v36 := Try.zeroValue122
  t41 := Try.underlying105
  a41 := Try.isAgg105
  z41 := Try.sizeOf105
  v41 := Try.zeroValue105
  t44 := Try.underlying128
  a44 := Try.isAgg128
  z44 := Try.sizeOf128
  v44 := Try.zeroValue128
  t46 := Try.underlying130
  a46 := Try.isAgg130
  z46 := Try.sizeOf130
  v46 := Try.zeroValue130
  t53 := Try.underlying139
  a53 := Try.isAgg139
  z53 := Try.sizeOf139
  v53 := Try.zeroValue139
  t57 := Try.underlying143
  a57 := Try.isAgg143
  z57 := Try.sizeOf143
  v57 := Try.zeroValue143
  t63 := Try.underlying153
  a63 := Try.isAgg153
  z63 := Try.sizeOf153
  v63 := Try.zeroValue153
  t64 := Try.underlying154
  a64 := Try.isAgg154
  z64 := Try.sizeOf154
  v64 := Try.zeroValue154 }

theorem sortsI (m : Nat) : AnyZI.SortsIn Try.prog laySorted_ren Fence.wide m :=
  ⟨fun blk off cap ss W hH hblk hsz => callsIn_wide.2 (AnyM.slices_Sort_int laySort blk off cap ss W hH hblk hsz),
   fun p cap W => callsIn_wide.2 (AnyM.slices_Sort_int_none laySort p cap W)⟩

def srt (l : List Int) : List Int := l.mergeSort (fun x y => decide (x ≤ y))
theorem srt_perm {a b : List Int} (h : a.Perm b) : srt a = srt b := by
  unfold srt
  have tr : ∀ (x y z : Int), decide (x ≤ y) = true → decide (y ≤ z) = true → decide (x ≤ z) = true := by
    intro x y z h1 h2
    simp at *
    omega
  have to : ∀ (x y : Int), (decide (x ≤ y) || decide (y ≤ x)) = true := by
    intro x y
    simp
    omega
  refine List.Perm.eq_of_pairwise (le := fun a b => decide (a ≤ b) = true) (fun a b _ _ h1 h2 => ?_) (List.pairwise_mergeSort tr to a) (List.pairwise_mergeSort tr to b) (((List.mergeSort_perm a _).trans h).trans (List.mergeSort_perm b _).symm)
  simp at h1 h2
  omega
theorem srt_mem {l : List Int} {x : Int} : x ∈ srt l ↔ x ∈ l := (List.mergeSort_perm l _).mem_iff
theorem srt_len (l : List Int) : (srt l).length = l.length := (List.mergeSort_perm l _).length_eq

theorem own_ints {w : World} {base : Nat} {v : Value} {ks : List Int} (h : w.ownsRow base 3 1 v ks.length (ks.map encZ)) (hk : ∀ k ∈ ks, I64 k) : OwnL tInt w base v ks := by
  refine ⟨ks.map fun k => [encZ k], ?_, by simp, ?_, ?_⟩
  · have flat1 : ∀ (l : List Int), (l.map fun k => [encZ k]).flatten = l.map encZ := by
      intro l
      induction l with
      | nil => rfl
      | cons x r ih => simp [ih]
    rw [flat1]
    exact h
  · intro c hc
    obtain ⟨k, _, rfl⟩ := List.mem_map.1 hc
    rfl
  · intro i c x hi hx
    rw [List.getElem?_map, hx] at hi
    simp at hi
    subst hi
    exact ⟨rfl, hk x (List.mem_of_getElem? hx)⟩

def SrtPost (w : World) (keys : List Int) (e : Ending) (w' : World) : Prop := ∃ v, e = .returned v ∧ OwnL tInt w' w.heap.size v (srt keys) ∧ Below w.heap.size w w'
theorem sorted_is (g : Nat) (lb : Array Value) (eg : ∀ args w, (callFunc g args).run Try.prog w = .ok (.enter g args) w) (keys : List Int) (hk : ∀ k ∈ keys, I64 k) (hl : keys.length ≤ 1000000) (w : World)
    (hseq : SeqGives Fence.wide 2 Try.prog g lb encZ (fun ss => ss.Perm keys) keys.length w) :
    Calls Try.prog 53 #[.func (.func g) #[] lb] w (SrtPost w keys) := by
  have cS := AnyZI.sorted_in laySorted Fence.wide 5 trivial trivial trivial trivial rfl (by omega) (sortsI _) (enters_of Try.func70 (by kernel_rfl) rfl) g lb trivial eg _ _ (by unfold maxLen; omega) (by omega) _ hseq
  change CallsIn _ _ Try.prog 53 _ _ _ at cS
  refine ((callsIn_wide (n := 5)).1 cS).mono ?_
  rintro e w' ⟨v, ss, rfl, hS, hrow, hnil, hb⟩
  refine ⟨v, rfl, own_ints ?_ ?_, hb⟩
  · rw [srt_len, ← hS.length_eq, ← srt_perm hS]
    exact hrow
  · intro k hk'
    exact hk k (srt_mem.1 hk')

end Go.Proofs.Ytogikjnfmcfbmaa
