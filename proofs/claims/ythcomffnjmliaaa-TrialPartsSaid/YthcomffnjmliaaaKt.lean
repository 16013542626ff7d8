/- slices.Sorted of maps.Keys at whole numbers. -/
import Derived.Test.YthcomffnjmliaaaIk
import Derived.Test.YthcomffnjmliaaaOw
import Derived.Shelf.AbstractIn
import Derived.Shelf.SlIterI.Keys
import Derived.Shelf.SlIterI.Collect
import Derived.Shelf.SlIterI.Sorted
import Derived.Shelf.SortM.Plain
import Derived.Shelf.SortM.SortNone
set_option linter.unusedVariables false
set_option linter.unusedSimpArgs false
namespace Go.Proofs.Ythcomffnjmliaaa
open Go.RowKit Go.Maps Go.Sort Go.Shelf Go.Proofs

def laySorted_ren : Go.Shelf.Ren := ⟨fun | 6 => 92 | 8 => 130 | 9 => 131 | 11 => 156 | 13 => 143 | 12 => 157 | 23 => 171 | 24 => 172 | 14 => 186 | 15 => 187 | 16 => 188 | 17 => 189 | 18 => 190 | 19 => 191 | 20 => 192 | 21 => 193 | 22 => 194 | 25 => 209 | 26 => 200 | 27 => 201 | 28 => 210 | 29 => 211 | 30 => 212 | 31 => 216 | n => n, fun | 26 => 3 | 28 => 162 | 24 => 103 | 0 => 0 | 3 => 3 | 37 => 217 | 48 => 240 | 50 => 242 | 4 => 4 | 40 => 234 | 39 => 233 | 45 => 212 | 5 => 5 | 9 => 9 | 51 => 262 | 55 => 266 | 57 => 273 | 58 => 274 | 33 => 22 | n => n, fun | n => n⟩
theorem laySorted : Go.Proofs.SlLaysZI.n6 Try.prog laySorted_ren := {
  mixed := by kernel_rfl
  f6 := ⟨Try.f92.name, by decide, Try.func92.trans (congrArg some (by kernel_rfl))⟩
  f8 := ⟨Try.f130.name, by decide, Try.func130.trans (congrArg some (by kernel_rfl))⟩
  f11 := ⟨Try.f156.name, by decide, Try.func156.trans (congrArg some (by kernel_rfl))⟩
  t0 := Try.underlying0
  a0 := Try.isAgg0
  z0 := Try.sizeOf0
  v0 := Try.zeroValue0
  t24 := Try.underlying103
  a24 := Try.isAgg103
  z24 := Try.sizeOf103
  v24 := Try.zeroValue103
  t26 := Try.underlying3
  a26 := Try.isAgg3
  z26 := Try.sizeOf3
  v26 := Try.zeroValue3
  t28 := Try.underlying162
  a28 := Try.isAgg162
  z28 := Try.sizeOf162
  v28 := Try.zeroValue162
  i26 := by kernel_rfl }
def laySort_ren : Go.Shelf.Ren := ⟨fun | 5 => 131 | 8 => 143 | 7 => 157 | 19 => 171 | 20 => 172 | 10 => 186 | 11 => 187 | 12 => 188 | 13 => 189 | 14 => 190 | 15 => 191 | 16 => 192 | 17 => 193 | 18 => 194 | 30 => 209 | 31 => 200 | 32 => 201 | 33 => 210 | 34 => 211 | 35 => 212 | 40 => 216 | n => n, fun | 23 => 103 | 25 => 3 | 3 => 3 | 32 => 217 | 22 => 103 | 0 => 0 | 44 => 240 | 46 => 242 | 4 => 4 | 36 => 234 | 35 => 233 | 41 => 212 | 5 => 5 | 9 => 9 | 53 => 262 | 57 => 266 | 63 => 273 | 64 => 274 | n => n, fun | n => n⟩
theorem laySort : Go.Proofs.SlLaysM.n5 Try.prog laySort_ren := {
  mixed := by kernel_rfl
  f5 := ⟨Try.f131.name, by decide, Try.func131.trans (congrArg some (by kernel_rfl))⟩
  f7 := ⟨Try.f157.name, by decide, Try.func157.trans (congrArg some (by kernel_rfl))⟩
  f8 := Try.func143.trans (congrArg some (by kernel_rfl))
  f10 := ⟨Try.f186.name, by decide, Try.func186.trans (congrArg some (by kernel_rfl))⟩
  f11 := ⟨Try.f187.name, by decide, Try.func187.trans (congrArg some (by kernel_rfl))⟩
  f12 := ⟨Try.f188.name, by decide, Try.func188.trans (congrArg some (by kernel_rfl))⟩
  f13 := ⟨Try.f189.name, by decide, Try.func189.trans (congrArg some (by kernel_rfl))⟩
  f14 := ⟨Try.f190.name, by decide, Try.func190.trans (congrArg some (by kernel_rfl))⟩
  f15 := ⟨Try.f191.name, by decide, Try.func191.trans (congrArg some (by kernel_rfl))⟩
  f16 := ⟨Try.f192.name, by decide, Try.func192.trans (congrArg some (by kernel_rfl))⟩
  f17 := ⟨Try.f193.name, by decide, Try.func193.trans (congrArg some (by kernel_rfl))⟩
  f18 := ⟨Try.f194.name, by decide, Try.func194.trans (congrArg some (by kernel_rfl))⟩
  f19 := Try.func171.trans (congrArg some (by kernel_rfl))
  f20 := Try.func172.trans (congrArg some (by kernel_rfl))
  f30 := ⟨Try.f209.name, by decide, Try.func209.trans (congrArg some (by kernel_rfl))⟩
  f31 := Try.func200.trans (congrArg some (by kernel_rfl))
  f32 := Try.func201.trans (congrArg some (by kernel_rfl))
  f33 := ⟨Try.f210.name, by decide, Try.func210.trans (congrArg some (by kernel_rfl))⟩
  f34 := ⟨Try.f211.name, by decide, Try.func211.trans (congrArg some (by kernel_rfl))⟩
  f35 := ⟨Try.f212.name, by decide, Try.func212.trans (congrArg some (by kernel_rfl))⟩
  f40 := ⟨Try.f216.name, by decide, Try.func216.trans (congrArg some (by kernel_rfl))⟩
  t0 := Try.underlying0
  a0 := Try.isAgg0
  z0 := Try.sizeOf0
  v0 := Try.zeroValue0
  t3 := Try.underlying3
  a3 := Try.isAgg3
  z3 := Try.sizeOf3
  v3 := Try.zeroValue3
  t4 := Try.underlying4
  a4 := Try.isAgg4
  z4 := Try.sizeOf4
  v4 := Try.zeroValue4
  t5 := Try.underlying5
  a5 := Try.isAgg5
  z5 := Try.sizeOf5
  v5 := Try.zeroValue5
  t9 := Try.underlying9
  a9 := Try.isAgg9
  z9 := Try.sizeOf9
  v9 := Try.zeroValue9
  t22 := Try.underlying103
  a22 := Try.isAgg103
  z22 := Try.sizeOf103
  v22 := Try.zeroValue103
  t23 := Try.underlying103
  a23 := Try.isAgg103
  z23 := Try.sizeOf103
  v23 := Try.zeroValue103
  t25 := Try.underlying3
  a25 := Try.isAgg3
  z25 := Try.sizeOf3
  v25 := Try.zeroValue3
  t32 := Try.underlying217
  a32 := Try.isAgg217
  z32 := Try.sizeOf217
  v32 := Try.zeroValue217
  t35 := Try.underlying233
  a35 := Try.isAgg233
  z35 := Try.sizeOf233
  v35 := Try.zeroValue233
  t36 := Try.underlying234
  a36 := Try.isAgg234
  z36 := Try.sizeOf234
  v36 := Try.zeroValue234
  t41 := Try.underlying212
  a41 := Try.isAgg212
  z41 := Try.sizeOf212
  v41 := Try.zeroValue212
  t44 := Try.underlying240
  a44 := Try.isAgg240
  z44 := Try.sizeOf240
  v44 := Try.zeroValue240
  t46 := Try.underlying242
  a46 := Try.isAgg242
  z46 := Try.sizeOf242
  v46 := Try.zeroValue242
  t53 := Try.underlying262
  a53 := Try.isAgg262
  z53 := Try.sizeOf262
  v53 := Try.zeroValue262
  t57 := Try.underlying266
  a57 := Try.isAgg266
  z57 := Try.sizeOf266
  v57 := Try.zeroValue266
  t63 := Try.underlying273
  a63 := Try.isAgg273
  z63 := Try.sizeOf273
  v63 := Try.zeroValue273
  t64 := Try.underlying274
  a64 := Try.isAgg274
  z64 := Try.sizeOf274
  v64 := Try.zeroValue274 }

theorem sortsI (m : Nat) : AnyZI.SortsIn Try.prog laySorted_ren Fence.wide m :=
  ⟨fun blk off cap ss W hH hblk hsz => callsIn_wide.2 (AnyM.slices_Sort_int laySort blk off cap ss W hH hblk hsz),
   fun p cap W => callsIn_wide.2 (AnyM.slices_Sort_int_none laySort p cap W)⟩

def srt (l : List Int) : List Int := l.mergeSort (fun x y => decide (x ≤ y))
theorem srt_perm {a b : List Int} (h : a.Perm b) : srt a = srt b := by
  unfold srt
  have tr : ∀ (x y z : Int), decide (x ≤ y) = true → decide (y ≤ z) = true → decide (x ≤ z) = true := by
    intro x y z h1 h2
    simp at *
    omega
  have to : ∀ (x y : Int), (decide (x ≤ y) || decide (y ≤ x)) = true := by
    intro x y
    simp
    omega
  refine List.Perm.eq_of_pairwise (le := fun a b => decide (a ≤ b) = true) (fun a b _ _ h1 h2 => ?_) (List.pairwise_mergeSort tr to a) (List.pairwise_mergeSort tr to b) (((List.mergeSort_perm a _).trans h).trans (List.mergeSort_perm b _).symm)
  simp at h1 h2
  omega
theorem srt_mem {l : List Int} {x : Int} : x ∈ srt l ↔ x ∈ l := (List.mergeSort_perm l _).mem_iff
theorem srt_len (l : List Int) : (srt l).length = l.length := (List.mergeSort_perm l _).length_eq

theorem own_ints {w : World} {base : Nat} {v : Value} {ks : List Int} (h : w.ownsRow base 3 1 v ks.length (ks.map encZ)) (hk : ∀ k ∈ ks, I64 k) : OwnL tInt w base v ks := by
  refine ⟨ks.map fun k => [encZ k], ?_, by simp, ?_, ?_⟩
  · have flat1 : ∀ (l : List Int), (l.map fun k => [encZ k]).flatten = l.map encZ := by
      intro l
      induction l with
      | nil => rfl
      | cons x r ih => simp [ih]
    rw [flat1]
    exact h
  · intro c hc
    obtain ⟨k, _, rfl⟩ := List.mem_map.1 hc
    rfl
  · intro i c x hi hx
    rw [List.getElem?_map, hx] at hi
    simp at hi
    subst hi
    exact ⟨rfl, hk x (List.mem_of_getElem? hx)⟩

def SrtPost (w : World) (keys : List Int) (e : Ending) (w' : World) : Prop := ∃ v, e = .returned v ∧ OwnL tInt w' w.heap.size v (srt keys) ∧ Below w.heap.size w w'
theorem sorted_is (g : Nat) (lb : Array Value) (eg : ∀ args w, (callFunc g args).run Try.prog w = .ok (.enter g args) w) (keys : List Int) (hk : ∀ k ∈ keys, I64 k) (hl : keys.length ≤ 1000000) (w : World)
    (hseq : SeqGives Fence.wide 2 Try.prog g lb encZ (fun ss => ss.Perm keys) keys.length w) :
    Calls Try.prog 92 #[.func (.func g) #[] lb] w (SrtPost w keys) := by
  have cS := AnyZI.sorted_in laySorted Fence.wide 5 trivial trivial trivial trivial rfl (by omega) (sortsI _) (enters_of Try.func131 (by kernel_rfl) rfl) g lb trivial eg _ _ (by unfold maxLen; omega) (by omega) _ hseq
  change CallsIn _ _ Try.prog 92 _ _ _ at cS
  refine ((callsIn_wide (n := 5)).1 cS).mono ?_
  rintro e w' ⟨v, ss, rfl, hS, hrow, hnil, hb⟩
  refine ⟨v, rfl, own_ints ?_ ?_, hb⟩
  · rw [srt_len, ← hS.length_eq, ← srt_perm hS]
    exact hrow
  · intro k hk'
    exact hk k (srt_mem.1 hk')

set_option maxRecDepth 100000 in
set_option maxHeartbeats 2000000 in
theorem keys1S (n : Nat) (hn : 1 ≤ n) (l Bm b : Nat) (lst : List (Int × Int)) (J : List Int → World → Prop)
    (hY : ∀ pre x W, J pre W → pre.length < lst.length → YieldAt Fence.wide (n - 1) Try.prog l #[encZ x] W fun e W' => e = .returned (.bool true) ∧ J (pre ++ [x]) W' ∧ KeepsWalks W W')
    (W : World) (hJ : AbidesFrom W.heap.size J) (hm : W.cell? ⟨Bm, 0, none⟩ = some (.map (some b))) (hM : MapIs mInt (Value.int .i64) W b lst) (h0 : J [] W) :
    CallsIn Fence.wide n Try.prog 155 #[.func (.yield l) #[] #[], .pointer (some ⟨Bm, 0, none⟩)] W fun e W' => (∃ v, e = .returned v) ∧ ∃ ss : List Int, ss.Perm (lst.map (·.1)) ∧ J ss W' := by
  refine callsIn_of_wp Try.func155 rfl trivial ?_ rfl
  simp only [Try.ntmps155, List.size_toArray, List.length_cons, List.length_nil, Nat.reduceAdd, Nat.reduceSub, Array.replicate_succ, Array.replicate_zero, List.push_toArray, List.append_toArray, List.nil_append, List.cons_append]
  gi_wp2_with (first
    | (gi_at_range; refine wpIn_range rfl _ 151 rfl 3 Try.underlying151 b lst rfl hM ?_; intro w0 hrg0 hg0 hs0)
    | gi_in)
  go_frame
  gi_loopw [3] (fun _ wr => ∃ (ss : List Int), Rng mInt (Value.int .i64) wr b W.heap.size lst ss ∧ J ss wr)
    (fun _ wr => wr.rangeLeft b W.heap.size)
  case atStart =>
    exact ⟨[], hrg0, hJ [] W w0 none h0 hg0 (fun r e => by cases e)⟩
  case round =>
    obtain ⟨ss, hrg, hJs⟩ := hrel
    gi_wp2_with (first
      | (gi_at_next; refine wpIn_next rfl _ rfl b W.heap.size lst ss rfl hrg ?_ ?_)
      | gi_in)
    · intro hp
      gi_wp2
      go_end0
      exact ⟨⟨_, rfl⟩, ss, hp, hJs⟩
    · intro kx v w2 hkv hrg2 hlt hg2 hs2 hen
      have hek : mInt.ek kx = .int .i64 kx := rfl
      rw [hek] at hen ⊢
      have hlen := hrg2.len
      have hJ2 : J ss w2 := hJ ss wr w2 (some W.heap.size) hJs hg2 (fun r e => by cases e; exact ⟨Nat.le_refl _, hrg.iter_walk⟩)
      obtain ⟨fn, tmps, assign, body, hy, hR⟩ := hY ss kx _ hJ2 (by simp at hlen; omega)
      clear hs2
      gi_wp2
      refine hR.mono ?_
      rintro e W3 ⟨rfl, hJ4, hk4⟩
      have hrg4 := hrg2.of_walks hk4
      gi_wp2
      go_roundw
      case rel => exact ⟨ss ++ [kx], hrg4, hJ4⟩
      case measure =>
        have e1 := rangeLeft_walks hk4 hrg2
        rw [e1]
        exact hlt
theorem keysfS (mb : Option Nat) (w : World) :
    Calls Try.prog 128 #[.map mb] w fun e w' => e = .returned (.func (.func 155) #[] #[.pointer (some ⟨w.heap.size, 0, none⟩)]) ∧ w' = w.alloc (.cells #[.map mb] 151) := by
  go_enter Try.func128, Try.ntmps128
  go_wp2_with fail
  go_ret
  exact ⟨rfl, rfl⟩
theorem givesS (n : Nat) (hn : 1 ≤ n) (Bm b : Nat) (lst : List (Int × Int)) (w : World) (hBm : Bm < w.heap.size) (hm : w.cell? ⟨Bm, 0, none⟩ = some (.map (some b))) (hM : MapIs mInt (Value.int .i64) w b lst) :
    SeqGives Fence.wide n Try.prog 155 #[.pointer (some ⟨Bm, 0, none⟩)] encZ (fun ss => ss.Perm (lst.map (·.1))) lst.length w := fun l J W hW hJ hY h0 =>
  keys1S n hn l Bm b lst J hY W hJ ((hW.cell (p := ⟨Bm, 0, none⟩) hBm).trans hm) (hM.keep (hW.block b hM.lt)) h0
theorem sortedS (Bm b : Nat) (lst : List (Int × Int)) (w : World) (hBm : Bm < w.heap.size) (hm : w.cell? ⟨Bm, 0, none⟩ = some (.map (some b))) (hM : MapIs mInt (Value.int .i64) w b lst) (hl : lst.length ≤ 1000000) :
    Calls Try.prog 92 #[.func (.func 155) #[] #[.pointer (some ⟨Bm, 0, none⟩)]] w (SrtPost w (lst.map (·.1))) :=
  sorted_is 155 #[.pointer (some ⟨Bm, 0, none⟩)] (enters_of Try.func155 (by kernel_rfl) rfl) (lst.map (·.1)) (fun k hk => by obtain ⟨x, hx, rfl⟩ := List.mem_map.1 hk; exact hM.oks x hx) (by rw [List.length_map]; exact hl) w (by rw [List.length_map]; exact givesS 2 (by omega) Bm b lst w hBm hm hM)
end Go.Proofs.Ythcomffnjmliaaa
