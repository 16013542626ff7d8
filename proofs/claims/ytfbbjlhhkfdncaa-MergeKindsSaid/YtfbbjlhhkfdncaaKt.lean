
/- slices.Sorted of maps.Keys at whole numbers. -/
import Derived.Test.YtfbbjlhhkfdncaaIk
import Derived.Test.YtfbbjlhhkfdncaaOw
import Derived.Shelf.AbstractIn
import Derived.Shelf.SlIterI.Keys
import Derived.Shelf.SlIterI.Collect
import Derived.Shelf.SlIterI.Sorted
import Derived.Shelf.SortM.Plain
import Derived.Shelf.SortM.SortNone
set_option linter.unusedVariables false
set_option linter.unusedSimpArgs false
namespace Go.Proofs.Ytfbbjlhhkfdncaa
open Go.RowKit Go.Maps Go.Sort Go.Shelf Go.Proofs

def laySorted_ren : Go.Shelf.Ren := ⟨fun | 6 => 48 | 8 => 83 | 9 => 84 | 11 => 110 | 13 => 96 | 12 => 111 | 23 => 125 | 24 => 126 | 14 => 134 | 15 => 135 | 16 => 136 | 17 => 137 | 18 => 138 | 19 => 139 | 20 => 140 | 21 => 141 | 22 => 142 | 25 => 154 | 26 => 148 | 27 => 149 | 28 => 155 | 29 => 156 | 30 => 157 | 31 => 160 | n => n, fun | 26 => 3 | 28 => 105 | 24 => 60 | 0 => 0 | 3 => 3 | 37 => 162 | 48 => 185 | 50 => 187 | 4 => 4 | 40 => 179 | 39 => 178 | 45 => 157 | 5 => 5 | 9 => 9 | 51 => 203 | 55 => 207 | 57 => 212 | 58 => 213 | 33 => 58 | n => n, fun | n => n⟩
theorem laySorted : Go.Proofs.SlLaysZI.n6 Try.prog laySorted_ren := {
  mixed := by kernel_rfl
  f6 := ⟨Try.f48.name, by decide, Try.func48.trans (congrArg some (by kernel_rfl))⟩
  f8 := ⟨Try.f83.name, by decide, Try.func83.trans (congrArg some (by kernel_rfl))⟩
  f11 := ⟨Try.f110.name, by decide, Try.func110.trans (congrArg some (by kernel_rfl))⟩
  t0 := Try.underlying0
  a0 := Try.isAgg0
  z0 := Try.sizeOf0
  v0 := Try.zeroValue0
  t24 := Try.underlying60
  a24 := Try.isAgg60
  z24 := Try.sizeOf60
  v24 := Try.zeroValue60
  t26 := Try.underlying3
  a26 := Try.isAgg3
  z26 := Try.sizeOf3
  v26 := Try.zeroValue3
  t28 := Try.underlying105
  a28 := Try.isAgg105
  z28 := Try.sizeOf105
  v28 := Try.zeroValue105
  i26 := by kernel_rfl }
def laySort_ren : Go.Shelf.Ren := ⟨fun | 5 => 84 | 8 => 96 | 7 => 111 | 19 => 125 | 20 => 126 | 10 => 134 | 11 => 135 | 12 => 136 | 13 => 137 | 14 => 138 | 15 => 139 | 16 => 140 | 17 => 141 | 18 => 142 | 30 => 154 | 31 => 148 | 32 => 149 | 33 => 155 | 34 => 156 | 35 => 157 | 40 => 160 | n => n, fun | 23 => 60 | 25 => 3 | 3 => 3 | 32 => 162 | 22 => 60 | 0 => 0 | 44 => 185 | 46 => 187 | 4 => 4 | 36 => 179 | 35 => 178 | 41 => 157 | 5 => 5 | 9 => 9 | 53 => 203 | 57 => 207 | 63 => 212 | 64 => 213 | n => n, fun | n => n⟩
theorem laySort : Go.Proofs.SlLaysM.n5 Try.prog laySort_ren := {
  mixed := by kernel_rfl
  f5 := ⟨Try.f84.name, by decide, Try.func84.trans (congrArg some (by kernel_rfl))⟩
  f7 := ⟨Try.f111.name, by decide, Try.func111.trans (congrArg some (by kernel_rfl))⟩
  f8 := Try.func96.trans (congrArg some (by kernel_rfl))
  f10 := ⟨Try.f134.name, by decide, Try.func134.trans (congrArg some (by kernel_rfl))⟩
  f11 := ⟨Try.f135.name, by decide, Try.func135.trans (congrArg some (by kernel_rfl))⟩
  f12 := ⟨Try.f136.name, by decide, Try.func136.trans (congrArg some (by kernel_rfl))⟩
  f13 := ⟨Try.f137.name, by decide, Try.func137.trans (congrArg some (by kernel_rfl))⟩
  f14 := ⟨Try.f138.name, by decide, Try.func138.trans (congrArg some (by kernel_rfl))⟩
  f15 := ⟨Try.f139.name, by decide, Try.func139.trans (congrArg some (by kernel_rfl))⟩
  f16 := ⟨Try.f140.name, by decide, Try.func140.trans (congrArg some (by kernel_rfl))⟩
  f17 := ⟨Try.f141.name, by decide, Try.func141.trans (congrArg some (by kernel_rfl))⟩
  f18 := ⟨Try.f142.name, by decide, Try.func142.trans (congrArg some (by kernel_rfl))⟩
  f19 := Try.func125.trans (congrArg some (by kernel_rfl))
  f20 := Try.func126.trans (congrArg some (by kernel_rfl))
  f30 := ⟨Try.f154.name, by decide, Try.func154.trans (congrArg some (by kernel_rfl))⟩
  f31 := Try.func148.trans (congrArg some (by kernel_rfl))
  f32 := Try.func149.trans (congrArg some (by kernel_rfl))
  f33 := ⟨Try.f155.name, by decide, Try.func155.trans (congrArg some (by kernel_rfl))⟩
  f34 := ⟨Try.f156.name, by decide, Try.func156.trans (congrArg some (by kernel_rfl))⟩
  f35 := ⟨Try.f157.name, by decide, Try.func157.trans (congrArg some (by kernel_rfl))⟩
  f40 := ⟨Try.f160.name, by decide, Try.func160.trans (congrArg some (by kernel_rfl))⟩
  t0 := Try.underlying0
  a0 := Try.isAgg0
  z0 := Try.sizeOf0
  v0 := Try.zeroValue0
  t3 := Try.underlying3
  a3 := Try.isAgg3
  z3 := Try.sizeOf3
  v3 := Try.zeroValue3
  t4 := Try.underlying4
  a4 := Try.isAgg4
  z4 := Try.sizeOf4
  v4 := Try.zeroValue4
  t5 := Try.underlying5
  a5 := Try.isAgg5
  z5 := Try.sizeOf5
  v5 := Try.zeroValue5
  t9 := Try.underlying9
  a9 := Try.isAgg9
  z9 := Try.sizeOf9
  v9 := Try.zeroValue9
  t22 := Try.underlying60
  a22 := Try.isAgg60
  z22 := Try.sizeOf60
  v22 := Try.zeroValue60
  t23 := Try.underlying60
  a23 := Try.isAgg60
  z23 := Try.sizeOf60
  v23 := Try.zeroValue60
  t25 := Try.underlying3
  a25 := Try.isAgg3
  z25 := Try.sizeOf3
  v25 := Try.zeroValue3
  t32 := Try.underlying162
  a32 := Try.isAgg162
  z32 := Try.sizeOf162
  v32 := Try.zeroValue162
  t35 := Try.underlying178
  a35 := Try.isAgg178
  z35 := Try.sizeOf178
  v35 := Try.zeroValue178
  t36 := Try.underlying179
  a36 := Try.isAgg179
  z36 := Try.sizeOf179
  v36 := Try.zeroValue179
  t41 := Try.underlying157
  a41 := Try.isAgg157
  z41 := Try.sizeOf157
  v41 := Try.zeroValue157
  t44 := Try.underlying185
  a44 := Try.isAgg185
  z44 := Try.sizeOf185
  v44 := Try.zeroValue185
  t46 := Try.underlying187
  a46 := Try.isAgg187
  z46 := Try.sizeOf187
  v46 := Try.zeroValue187
  t53 := Try.underlying203
  a53 := Try.isAgg203
  z53 := Try.sizeOf203
  v53 := Try.zeroValue203
  t57 := Try.underlying207
  a57 := Try.isAgg207
  z57 := Try.sizeOf207
  v57 := Try.zeroValue207
  t63 := Try.underlying212
  a63 := Try.isAgg212
  z63 := Try.sizeOf212
  v63 := Try.zeroValue212
  t64 := Try.underlying213
  a64 := Try.isAgg213
  z64 := Try.sizeOf213
  v64 := Try.zeroValue213 }

theorem sortsI (m : Nat) : AnyZI.SortsIn Try.prog laySorted_ren Fence.wide m :=
  ⟨fun blk off cap ss W hH hblk hsz => callsIn_wide.2 (AnyM.slices_Sort_int laySort blk off cap ss W hH hblk hsz),
   fun p cap W => callsIn_wide.2 (AnyM.slices_Sort_int_none laySort p cap W)⟩

def srt (l : List Int) : List Int := l.mergeSort (fun x y => decide (x ≤ y))
theorem srt_perm {a b : List Int} (h : a.Perm b) : srt a = srt b := by
  unfold srt
  have tr : ∀ (x y z : Int), decide (x ≤ y) = true → decide (y ≤ z) = true → decide (x ≤ z) = true := by
    intro x y z h1 h2
    simp at *
    omega
  have to : ∀ (x y : Int), (decide (x ≤ y) || decide (y ≤ x)) = true := by
    intro x y
    simp
    omega
  refine List.Perm.eq_of_pairwise (le := fun a b => decide (a ≤ b) = true) (fun a b _ _ h1 h2 => ?_) (List.pairwise_mergeSort tr to a) (List.pairwise_mergeSort tr to b) (((List.mergeSort_perm a _).trans h).trans (List.mergeSort_perm b _).symm)
  simp at h1 h2
  omega
theorem srt_mem {l : List Int} {x : Int} : x ∈ srt l ↔ x ∈ l := (List.mergeSort_perm l _).mem_iff
theorem srt_len (l : List Int) : (srt l).length = l.length := (List.mergeSort_perm l _).length_eq

theorem own_ints {w : World} {base : Nat} {v : Value} {ks : List Int} (h : w.ownsRow base 3 1 v ks.length (ks.map encZ)) (hk : ∀ k ∈ ks, I64 k) : OwnL tInt w base v ks := by
  refine ⟨ks.map fun k => [encZ k], ?_, by simp, ?_, ?_⟩
  · have flat1 : ∀ (l : List Int), (l.map fun k => [encZ k]).flatten = l.map encZ := by
      intro l
      induction l with
      | nil => rfl
      | cons x r ih => simp [ih]
    rw [flat1]
    exact h
  · intro c hc
    obtain ⟨k, _, rfl⟩ := List.mem_map.1 hc
    rfl
  · intro i c x hi hx
    rw [List.getElem?_map, hx] at hi
    simp at hi
    subst hi
    exact ⟨rfl, hk x (List.mem_of_getElem? hx)⟩

def SrtPost (w : World) (keys : List Int) (e : Ending) (w' : World) : Prop := ∃ v, e = .returned v ∧ OwnL tInt w' w.heap.size v (srt keys) ∧ Below w.heap.size w w'
theorem sorted_is (g : Nat) (lb : Array Value) (eg : ∀ args w, (callFunc g args).run Try.prog w = .ok (.enter g args) w) (keys : List Int) (hk : ∀ k ∈ keys, I64 k) (hl : keys.length ≤ 1000000) (w : World)
    (hseq : SeqGives Fence.wide 2 Try.prog g lb encZ (fun ss => ss.Perm keys) keys.length w) :
    Calls Try.prog 48 #[.func (.func g) #[] lb] w (SrtPost w keys) := by
  have cS := AnyZI.sorted_in laySorted Fence.wide 5 trivial trivial trivial trivial rfl (by omega) (sortsI _) (enters_of Try.func84 (by kernel_rfl) rfl) g lb trivial eg _ _ (by unfold maxLen; omega) (by omega) _ hseq
  change CallsIn _ _ Try.prog 48 _ _ _ at cS
  refine ((callsIn_wide (n := 5)).1 cS).mono ?_
  rintro e w' ⟨v, ss, rfl, hS, hrow, hnil, hb⟩
  refine ⟨v, rfl, own_ints ?_ ?_, hb⟩
  · rw [srt_len, ← hS.length_eq, ← srt_perm hS]
    exact hrow
  · intro k hk'
    exact hk k (srt_mem.1 hk')

set_option maxRecDepth 100000 in
set_option maxHeartbeats 2000000 in
theorem keys1S (n : Nat) (hn : 1 ≤ n) (l Bm b : Nat) (lst : List (Int × Int)) (J : List Int → World → Prop)
    (hY : ∀ pre x W, J pre W → pre.length < lst.length → YieldAt Fence.wide (n - 1) Try.prog l #[encZ x] W fun e W' => e = .returned (.bool true) ∧ J (pre ++ [x]) W' ∧ KeepsWalks W W')
    (W : World) (hJ : AbidesFrom W.heap.size J) (hm : W.cell? ⟨Bm, 0, none⟩ = some (.map (some b))) (hM : MapIs mInt (Value.int .i64) W b lst) (h0 : J [] W) :
    CallsIn Fence.wide n Try.prog 133 #[.func (.yield l) #[] #[], .pointer (some ⟨Bm, 0, none⟩)] W fun e W' => (∃ v, e = .returned v) ∧ ∃ ss : List Int, ss.Perm (lst.map (·.1)) ∧ J ss W' := by
  refine callsIn_of_wp Try.func133 rfl trivial ?_ rfl
  simp only [Try.ntmps133, List.size_toArray, List.length_cons, List.length_nil, Nat.reduceAdd, Nat.reduceSub, Array.replicate_succ, Array.replicate_zero, List.push_toArray, List.append_toArray, List.nil_append, List.cons_append]
  gi_wp2_with (first
    | (gi_at_range; refine wpIn_range rfl _ 138 rfl 3 Try.underlying138 b lst rfl hM ?_; intro w0 hrg0 hg0 hs0)
    | gi_in)
  go_frame
  gi_loopw [3] (fun _ wr => ∃ (ss : List Int), Rng mInt (Value.int .i64) wr b W.heap.size lst ss ∧ J ss wr)
    (fun _ wr => wr.rangeLeft b W.heap.size)
  case atStart =>
    exact ⟨[], hrg0, hJ [] W w0 none h0 hg0 (fun r e => by cases e)⟩
  case round =>
    obtain ⟨ss, hrg, hJs⟩ := hrel
    gi_wp2_with (first
      | (gi_at_next; refine wpIn_next rfl _ rfl b W.heap.size lst ss rfl hrg ?_ ?_)
      | gi_in)
    · intro hp
      gi_wp2
      go_end0
      exact ⟨⟨_, rfl⟩, ss, hp, hJs⟩
    · intro kx v w2 hkv hrg2 hlt hg2 hs2 hen
      have hek : mInt.ek kx = .int .i64 kx := rfl
      rw [hek] at hen ⊢
      have hlen := hrg2.len
      have hJ2 : J ss w2 := hJ ss wr w2 (some W.heap.size) hJs hg2 (fun r e => by cases e; exact ⟨Nat.le_refl _, hrg.iter_walk⟩)
      obtain ⟨fn, tmps, assign, body, hy, hR⟩ := hY ss kx _ hJ2 (by simp at hlen; omega)
      clear hs2
      gi_wp2
      refine hR.mono ?_
      rintro e W3 ⟨rfl, hJ4, hk4⟩
      have hrg4 := hrg2.of_walks hk4
      gi_wp2
      go_roundw
      case rel => exact ⟨ss ++ [kx], hrg4, hJ4⟩
      case measure =>
        have e1 := rangeLeft_walks hk4 hrg2
        rw [e1]
        exact hlt
theorem keysfS (mb : Option Nat) (w : World) :
    Calls Try.prog 109 #[.map mb] w fun e w' => e = .returned (.func (.func 133) #[] #[.pointer (some ⟨w.heap.size, 0, none⟩)]) ∧ w' = w.alloc (.cells #[.map mb] 138) := by
  go_enter Try.func109, Try.ntmps109
  go_wp2_with fail
  go_ret
  exact ⟨rfl, rfl⟩
theorem givesS (n : Nat) (hn : 1 ≤ n) (Bm b : Nat) (lst : List (Int × Int)) (w : World) (hBm : Bm < w.heap.size) (hm : w.cell? ⟨Bm, 0, none⟩ = some (.map (some b))) (hM : MapIs mInt (Value.int .i64) w b lst) :
    SeqGives Fence.wide n Try.prog 133 #[.pointer (some ⟨Bm, 0, none⟩)] encZ (fun ss => ss.Perm (lst.map (·.1))) lst.length w := fun l J W hW hJ hY h0 =>
  keys1S n hn l Bm b lst J hY W hJ ((hW.cell (p := ⟨Bm, 0, none⟩) hBm).trans hm) (hM.keep (hW.block b hM.lt)) h0
theorem sortedS (Bm b : Nat) (lst : List (Int × Int)) (w : World) (hBm : Bm < w.heap.size) (hm : w.cell? ⟨Bm, 0, none⟩ = some (.map (some b))) (hM : MapIs mInt (Value.int .i64) w b lst) (hl : lst.length ≤ 1000000) :
    Calls Try.prog 48 #[.func (.func 133) #[] #[.pointer (some ⟨Bm, 0, none⟩)]] w (SrtPost w (lst.map (·.1))) :=
  sorted_is 133 #[.pointer (some ⟨Bm, 0, none⟩)] (enters_of Try.func133 (by kernel_rfl) rfl) (lst.map (·.1)) (fun k hk => by obtain ⟨x, hx, rfl⟩ := List.mem_map.1 hk; exact hM.oks x hx) (by rw [List.length_map]; exact hl) w (by rw [List.length_map]; exact givesS 2 (by omega) Bm b lst w hBm hm hM)
end Go.Proofs.Ytfbbjlhhkfdncaa
